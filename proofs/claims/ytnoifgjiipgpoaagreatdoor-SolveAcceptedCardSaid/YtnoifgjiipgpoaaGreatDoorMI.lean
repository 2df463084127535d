/- Parts of the proof. -/
import Derived.Test.YtnoifgjiipgpoaaGreatDoorMH
set_option linter.all false
set_option maxHeartbeats 4000000
namespace Go.Proofs.YtnoifgjiipgpoaaGreatDoor
open Go Go.Proofs.YtnoifgjiipgpoaaGreatDoor.R
set_option maxRecDepth 4000
set_option maxHeartbeats 1000000
def vP:Option (List Int)→Int
 |none=>10
 |some _=>0
theorem aZ2 {x:aA} {p:bE} {k:Nat} {q:List (List aQ)} {ps:List (List (List aQ))} {dl:List Int} (h:dl.getD k 0≠iG):x.partsGo p k (q :: ps) dl=(x.partGo p k 0 q dl).bind (x.partsGo p (k+1) ps):=by rw [aA.partsGo,if_neg h];cases x.partGo p k 0 q dl<;>rfl
theorem aZW {x:aA} {p:bE} {k i:Nat} {l:List aQ} {q:List (List aQ)} {dl:List Int}:x.partGo p k i (l :: q) dl=(x.layGo p k i l dl).bind (x.partGo p k (i+1) q):=by rw [aA.partGo];cases x.layGo p k i l dl<;>rfl
structure bE.Fine (p:bE):Prop where
 len:p.parts.length<2^31
 parts:∀q∈p.parts,q.length<2^30
 lays:∀q∈p.parts,∀l∈q,l.length<2^31
 ok:∀q∈p.parts,∀l∈q,∀n∈l,n.s.ok
theorem aIV {x:aA} {p:bE} (hw:∀q∈p.parts,x.wholeB p q=true) {j:Nat} (hj:j<p.parts.length):∃f,p.first j=some f:=by
 have h:=hw p.parts[j] (List.getElem_mem _);rw [bE.first,List.getElem?_eq_getElem hj];generalize p.parts[j]=q at *;unfold aA.wholeB at h;split at h
 ·cases h
 ·rename_i l q0;simp only [Bool.and_eq_true,decide_eq_true_eq] at h;cases l with
  |nil=>simp at h
  |cons n l=>exact ⟨n,rfl⟩
theorem aSZ (x:aA) (p:bE) (hl:x.stops.length<2^31) (hp:p.Fine):Pure P 58 [x.a,p.a] (.i (x.checkE p)):=by
 generalize hR:x.checkE p=R;refine aW Tryz.func58 rfl rfl (by simp [Tryz.f58]) (by simp [aE,aE.bndL,aA.a,bE.a,bE.cs]) (by simp [aE,aE.bndL]) fun B hB hnx=>?_
 simp only [Tryz.f58] at hB ⊢;have hplen:=hp.len;rw [aA.checkE] at hR;refine aD ?_;simp [go_sem,aA.a,bE.a,bE.cs];refine qP (α:=Unit) 0 (fun _=>False) (fun _=>⟨sl [],dR,0⟩) (fun _=>0) rfl (fun _ h=>h.elim) ?_;intro J hJ;refine aD ?_;simp [go_sem];refine aL rfl rfl rfl (args:=[x.a]) (f:=44) (by simp [go_sem,aA.a]) (by simp [go_sem,hB]) ((lP x (by omega)).spec _ _) ?_;cases hmay:x.may with
 |false=>rw [if_neg (by simp [aA.mayP,hmay])] at hR;subst hR;refine aD ?_;simp [go_sem]
 |true=>
  have hYl:(p.parts.map cB).length=p.parts.length:=List.length_map _;have hYg:∀(k:Nat) (h:k<p.parts.length),(p.parts.map cB)[k]'(by rw [hYl];exact h)=cB p.parts[k]:=fun k h=>sS cB p.parts h _
  by_cases c1:p.least<0
  ·rw [if_neg (by simp [aA.mayP];omega)] at hR;subst hR;refine aD ?_;simp [go_sem,c1]
  by_cases c2:iG<p.least
  ·rw [if_neg (by simp [aA.mayP];omega)] at hR;subst hR;have c2':1152921504606846976<p.least:=c2;refine aD ?_;simp [go_sem,c1,c2']
  have c2':¬1152921504606846976<p.least:=c2;by_cases c3:p.parts=[]
  ·rw [if_neg (by simp [aA.mayP,c3])] at hR;subst hR;refine aD ?_;simp [go_sem,c1,c2',c3]
  have hpos:0<p.parts.length:=List.length_pos_iff.2 c3;have c3':¬p.parts.length=0:=by omega
  obtain ⟨pp,hx⟩:=x.fit hmay;have hxp:=hx.pairs;have hxf:=hx.few;have hcont:=fun (τ:Nat→aG) (h1:τ 2= .box (cX x p (.fsl []))) (h2:τ 3= .box [.ptr 2 0])=>aTF p.parts (fun q=>!x.wholeB p q) (σ:=τ) (nx:=4) (f:=103) (caps:=[.ptr 3 0]) hplen fun q hq=>aSY x p q (.fsl []) (by omega) (by have:=hp.parts q hq;omega) (hp.lays q hq) (by omega) h1 (by omega) h2
  refine aD ?_;simp [go_sem,c1,c2',c3,hYl,c3'];refine aL rfl rfl rfl (args:=[.t (.sl (p.parts.map cB)),.fn (.func 103) [] [.ptr 3 0]]) (f:=105) (by simp [go_sem]) (by simp [go_sem,hB]) (hcont _ (by simp [aB,cX,aA.cs]) (by simp [aB])) ?_;cases c4:p.parts.any fun q=>!x.wholeB p q with
  |true=>
   have:p.parts.all (x.wholeB p)=false:=by rw [List.any_eq_true] at c4;obtain ⟨q,h1,h2⟩:=c4;rw [List.all_eq_false];exact ⟨q,h1,by simpa using h2⟩
   rw [if_neg (by simp [aA.mayP,this])] at hR;subst hR;refine aD ?_;simp [go_sem]
  |false=>
   have hw:∀q∈p.parts,x.wholeB p q=true:=by rw [List.any_eq_false] at c4;intro q hq;have:=c4 q hq;simpa using this
   have hmp:x.mayP p=true:=by simp only [aA.mayP,Bool.and_eq_true,decide_eq_true_eq];exact ⟨hmay,by omega,by omega,c3,List.all_eq_true.2 hw⟩
   rw [if_pos hmp] at hR;obtain ⟨f,hf⟩:=aIV hw hpos;rw [hf] at hR;simp only at hR;obtain ⟨hj0,l0,q0,hp0⟩:=aIY hf;have hY0:∀h:0<(p.parts.map cB).length,(p.parts.map cB)[0]'h=[.sl ([.sl (f.t :: l0.map aQ.t)] :: q0.map cE)]:=fun h=>by rw [List.getElem_map,hp0];rfl
   generalize hY:p.parts.map cB=Y at *;have hck:∀D,cX x p D=[.t (.i x.pairs),.t (.i x.cars),.t (.i x.room),.t (.sl (x.stops.map aR.t)),.i p.least,.t (.sl Y),D]:=fun D=>by rw [cX,hY]
   have hr:=zP x (by omega);refine aD ?_;simp [go_sem,hYl,hpos,hY0,aQ.t];refine bK [] rfl (by rw [hB];kernel_rfl) ?_;refine aD ?_;simp [go_sem];refine bQ rfl rfl rfl (args:=[x.a]) (f:=47) (by simp [go_sem,aA.a]) (hr) ?_;generalize x.rootS=rt at *;refine tX (op:=.neq) (t:=91) (t':=91) (x:=.tmp 55) (y:=.tmp 57) (xs:=f.s.cs) (ys:=rt.cs) (by simp [go_sem]) rfl (by simp [go_sem,aF.cs]) (by simp [go_sem,aF.a,aF.cs]) z7 (vW f.s rt) rfl ?_;by_cases c5:f.s=rt
   rotate_left
   ·rw [if_neg (fun h=>c5 h.1)] at hR;subst hR;refine aD ?_;simp [go_sem,c5]
   by_cases c6:f.cost=0
   rotate_left
   ·rw [if_neg (fun h=>c6 h.2)] at hR;subst hR;refine aD ?_;simp [go_sem,c5,c6]
   rw [if_pos ⟨c5,c6⟩] at hR;refine aD ?_;simp [go_sem,c5,c6];refine cT [5,8] [0] rfl (by rw [hB];kernel_rfl) (by kernel_rfl) fun ht hf'=>?_
   refine aD ?_;simp [go_sem,ht,hf',hYl];refine o8 rfl rfl rfl (args:=[.fsl [[.i 1152921504606846976]],.i p.parts.length]) (f:=106) (by simp [go_sem]) (bBI 1152921504606846976 p.parts.length hpos hplen _ _) (by decide) (oK (by simp [go_sem])) ?_;refine aD ?_;simp [go_sem,ht,hf',hpos,hYl];have hR':vP (x.partsGo p 0 (p.parts.drop 0) ((List.replicate p.parts.length iG).set 0 0))=R:=by rw [←hR,List.drop_zero];cases x.partsGo p 0 p.parts ((List.replicate p.parts.length iG).set 0 0)<;>rfl
   have hdl0:((List.replicate p.parts.length iG).set 0 0).length=p.parts.length:=by rw [List.length_set,List.length_replicate]
   have hlead:∀q∈p.parts,∀l∈q,∀n∈l,0≤n.part∧n.part≤p.parts.length∧(0<n.part→∃j f,n.part=((j:Nat):Int)+1∧p.first j=some f):=fun q hq l hl' n hn=>by obtain ⟨_,_,b1,b2⟩:=bDT (aPJ (hw q hq) hl' hn);refine ⟨b1,b2,fun h0=>?_⟩;obtain ⟨j,hj⟩:∃j:Nat,n.part=(j:Int)+1:=⟨(n.part-1).toNat,by omega⟩;obtain ⟨f,hf⟩:=aIV hw (j:=j) (by omega);exact ⟨j,f,hj,hf⟩
   have hhold:=fun (τ:Nat→aG) (ny:Nat) (k i:Nat) (q:List (List aQ)) (n:aQ) (dl:List Int) (h1:p.parts[k]? =some q) (h2:i<2^31) (h3:k<dl.length) (h4:0<n.part→∃j f,n.part=((j:Nat):Int)+1∧p.first j=some f) (h5:n.s.ok) (h6:5<ny) (h7:τ 2= .box (cX x p (.ref 5))) (h8:τ 5= .arr 1 (aJ dl))=>aVY x p n k i 5 dl q hl h5 hplen h1 (by have:=hp.parts q (List.mem_of_getElem? h1);omega) (hp.lays q (List.mem_of_getElem? h1)) h2 h3 h4 (σ:=τ) (nx:=ny) (c:=2) (by omega) h7 (by omega) h8
   have hparts:=hp.parts;have hlays:=hp.lays;have hoks:=hp.ok;have hck5:=hck (.ref 5);clear hcont hR hY0 hr hp;generalize hps:p.parts=ps at *
   refine bA (α:=Nat×List Int×(Nat→aG)×Nat) (fun (k,dl,τ,ny)=>k≤ps.length∧dl.length=ps.length∧vP (x.partsGo p k (ps.drop k) dl)=R∧τ 2= .box (cX x p (.ref 5))∧τ 3= .box [.ptr 2 0]∧τ 5= .arr 1 (aJ dl)∧5<ny)
    (fun (k,dl,τ,ny)=>⟨sl [(5,.ptr 3 0),(78,.t (.sl Y)),(79,.i ps.length),(80,.i k)],τ,ny⟩) (fun a=>ps.length-a.1) (0,(List.replicate ps.length iG).set 0 0,_,6) ?_ (aH.slots (by simp [go_sem]) rfl rfl) ?_
   ·refine ⟨Nat.zero_le _,hdl0,hR',?_,?_,?_,?_⟩
    ·simp [aB,hck5]
    ·simp [aB]
    ·simp [aB,aJ,List.map_set,iG]
    ·simp
   rintro ⟨k,dl,τ,ny⟩ ⟨g1,g2,g3,g4,g5,g6,g7⟩;refine aI ?_;simp [go_sem];refine bU (fun hk=>?_) (fun hk=>?_)
   ·have hkk:IntKind.i64.wrap ((k:Int)+1)=((k+1:Nat):Int):=by rw [aO ((k:Int)+1) (by omega)];rfl
    have hgk:∀h:k<Y.length,Y[k]'h=cB ps[k]:=fun h=>hYg k hk
    have hqk:ps[k]? =some ps[k]:=List.getElem?_eq_getElem hk;have hqm:ps[k]∈ps:=List.getElem_mem _;have hql:=hparts _ hqm;have hdl:(aJ dl).length=dl.length:=List.length_map _;have hdg:∀h:k<(aJ dl).length,(aJ dl)[k]'h=[.i dl[k]]:=fun h=>gH _ (by omega)
    have hgd:dl.getD k 0=dl[k]:=by rw [List.getD_eq_getElem?_getD,List.getElem?_eq_getElem (by omega)];rfl
    have hdk:k<dl.length:=by omega
    rw [List.drop_eq_getElem_cons hk] at g3;have hlq:=fun l (hl':l∈ps[k]) n hn=>hlead _ hqm l hl' n hn
    have hoq:=hoks _ hqm;generalize ps[k]=q at *;have hpt:cB q=[.sl (q.map cE)]:=rfl;have n2:¬2=ny:=by omega
    have n3:¬3=ny:=by omega
    have n5:¬5=ny:=by omega
    by_cases d1:dl[k]=iG
    ·rw [aA.partsGo,hgd,if_pos d1] at g3;have d1':dl[k]=1152921504606846976:=d1;simp [go_sem,hYl,hk,hgk,hpt,g4,g5,g6,n2,n3,n5,hck5,hdl,hdk,hdg,Nat.mod_one,d1',hkk];refine Next.mk (k+1,dl,_,ny+1) ?_ (aH.slots (by simp [go_sem]) rfl rfl) (by simp only;omega);exact ⟨by simp only;omega,g2,g3,by simp [aB,n2,g4,hck5],by simp [aB,n3,g5],by simp [aB,n5,g6],by simp only;omega⟩
    ·rw [aZ2 (by rw [hgd];exact d1)] at g3;have d1':¬dl[k]=1152921504606846976:=d1;simp [go_sem,hYl,hk,hgk,hpt,g4,g5,g6,n2,n3,n5,hck5,hdl,hdk,hdg,Nat.mod_one,d1'];generalize hG:x.partsGo p (k+1) (ps.drop (k+1))=G at *;have hZl:(q.map cE).length=q.length:=List.length_map _;have hZg:∀(k:Nat) (h:k<q.length),(q.map cE)[k]'(by rw [hZl];exact h)=cE q[k]:=fun k h=>sS cE q h _
     have hlq2:=hlays _ hqm;generalize q.map cE=Z at *
     refine bA (α:=Nat×List Int×(Nat→aG)×Nat) (fun (i,d,τ,ny)=>i≤q.length∧d.length=ps.length∧vP ((x.partGo p k i (q.drop i) d).bind G)=R∧τ 2= .box (cX x p (.ref 5))∧τ 3= .box [.ptr 2 0]∧τ 5= .arr 1 (aJ d)∧5<ny)
      (fun (i,d,τ,ny)=>⟨sl [(5,.ptr 3 0),(8,.i k),(78,.t (.sl Y)),(79,.i ps.length),(80,.i k),(94,.t (.sl Z)),(95,.i q.length),(96,.i i)],τ,ny⟩) (fun a=>q.length-a.1) (0,dl,_,ny+1) ?_ (aH.slots (by simp [go_sem,hZl]) rfl rfl) ?_
     ·exact ⟨Nat.zero_le _,g2,g3,by simp [aB,n2,g4,hck5],by simp [aB,n3,g5],by simp [aB,n5,g6],by omega⟩
     clear g2 g3 g4 g5 g6 g7 n2 n3 n5 hdl hdg hgd hdk d1 d1';rintro ⟨i,d,τ,ny⟩ ⟨g1,g2,g3,g4,g5,g6,g7⟩;refine aI ?_;simp [go_sem];refine bU (fun hi=>?_) (fun hi=>?_)
     ·have hii:IntKind.i64.wrap ((i:Int)+1)=((i+1:Nat):Int):=by rw [aO ((i:Int)+1) (by omega)];rfl
      have hgi:∀h:i<Z.length,Z[i]'h=cE q[i]:=fun h=>hZg i hi
      rw [List.drop_eq_getElem_cons hi,aZW,Option.bind_assoc] at g3;have hln:=fun n (hn:n∈q[i])=>hlq _ (List.getElem_mem hi) n hn
      have hon:=hoq _ (List.getElem_mem hi);have hll:=hlq2 _ (List.getElem_mem hi);generalize q[i]=l at *;generalize hG2:(fun d=>(x.partGo p k (i+1) (q.drop (i+1)) d).bind G)=G2 at *;have hly:cE l=[.sl (l.map aQ.t)]:=rfl;have hVl:(l.map aQ.t).length=l.length:=List.length_map _;have hVg:∀(k:Nat) (h:k<l.length),(l.map aQ.t)[k]'(by rw [hVl];exact h)=l[k].t:=fun k h=>sS aQ.t l h _
      simp [go_sem,hZl,hi,hgi,hly]
      refine bA (α:=Nat×List Int×(Nat→aG)×Nat) (fun (j,d,τ,ny)=>j≤l.length∧d.length=ps.length∧vP ((x.layGo p k i (l.drop j) d).bind G2)=R∧τ 2= .box (cX x p (.ref 5))∧τ 3= .box [.ptr 2 0]∧τ 5= .arr 1 (aJ d)∧5<ny)
       (fun (j,d,τ,ny)=>⟨sl [(5,.ptr 3 0),(8,.i k),(10,.i i),(78,.t (.sl Y)),(79,.i ps.length),(80,.i k),(94,.t (.sl Z)),(95,.i q.length),(96,.i i),(101,.t (.sl (l.map aQ.t))),(102,.i l.length),(103,.i j)],τ,ny⟩) (fun a=>l.length-a.1) (0,d,τ,ny) ?_ (aH.slots (by simp [go_sem,hVl]) rfl rfl) ?_
      ·exact ⟨Nat.zero_le _,g2,g3,g4,g5,g6,g7⟩
      clear g2 g3 g4 g5 g6 g7;rintro ⟨j,d,τ,ny⟩ ⟨g1,g2,g3,g4,g5,g6,g7⟩;refine aI ?_;simp [go_sem];refine bU (fun hj=>?_) (fun hj=>?_)
      ·have hjj:IntKind.i64.wrap ((j:Int)+1)=((j+1:Nat):Int):=by rw [aO ((j:Int)+1) (by omega)];rfl
       have hgj:∀h:j<(l.map aQ.t).length,(l.map aQ.t)[j]'h=l[j].t:=fun h=>hVg j hj
       have hgd:d.getD k 0=d[k]:=by rw [List.getD_eq_getElem?_getD,List.getElem?_eq_getElem (by omega)];rfl
       rw [List.drop_eq_getElem_cons hj,aA.layGo,hgd] at g3;obtain ⟨hn0,hn1,hn2⟩:=hln _ (List.getElem_mem hj);have hn3:=hon _ (List.getElem_mem hj);generalize l[j]=n at *;have n2:¬2=ny:=by omega
       have n3:¬3=ny:=by omega
       have n5:¬5=ny:=by omega
       have hh:=fun τ' h1 h2=>hhold τ' (ny+1) k i q n d hqk (by omega) (by omega) hn2 hn3 (by omega) h1 h2
       simp [go_sem,hVl,hj,hgj,aQ.t,g5,n3];refine aL rfl rfl rfl (args:=[.ptr 2 0,.i k,.i i,n.a]) (f:=107) (by simp [go_sem,aQ.a,aQ.cs]) (by simp [go_sem,hB]) (hh _ (by simp [aB,n2,g4]) (by simp [aB,n5,g6])) ?_;cases hhb:x.holdsB p k i n d[k] with
       |false=>rw [hhb,if_neg (by simp)] at g3;subst g3;refine aD ?_;simp [go_sem];rfl
       |true=>
        rw [hhb,if_pos rfl] at g3;have hw1:IntKind.i64.wrap (n.part-1)=n.part-1:=aO _ (by omega);by_cases e1:(k:Int)<n.part-1
        ·obtain ⟨o,ho⟩:∃o:Nat,n.part-1=(o:Int):=⟨(n.part-1).toNat,by omega⟩;have hst:qD k i n d=d.set o (min (d.getD o 0) (IntKind.i64.wrap (d.getD k 0+i))):=by rw [qD,if_pos e1,show (n.part-1).toNat=o by omega]
         have hod:o<d.length:=by omega
         have hgo:d.getD o 0=d[o]:=by rw [List.getD_eq_getElem?_getD,List.getElem?_eq_getElem hod];rfl
         rw [hst,hgo,hgd] at g3;have hdl:(aJ d).length=d.length:=List.length_map _;have hdk:k<d.length:=by omega
         have hdg:∀h:k<(aJ d).length,(aJ d)[k]'h=[.i d[k]]:=fun h=>gH _ hdk
         have hdo:∀h:o<(aJ d).length,(aJ d)[o]'h=[.i d[o]]:=fun h=>gH _ hod
         have e1':k<o:=by omega
         rw [ho] at hw1;generalize d[k]=dk at *;generalize d[o]=dO at *;refine aD ?_;simp [go_sem,ho,hw1,e1'];refine gQ [23] rfl (by rw [hB];kernel_rfl) (by kernel_rfl) fun ht=>?_
         refine aD ?_;simp [go_sem,ht,n2,n3,n5,g4,g5,g6,hck5,hdl,hdk,hod,hdg,hdo,Nat.mod_one,hjj];refine Next.mk (j+1,d.set o (min dO (IntKind.i64.wrap (dk+i))),_,ny+1) ?_ (aH.slots (by simp [go_sem]) rfl rfl) (by simp only;omega);exact ⟨by simp only;omega,by simp only [List.length_set];exact g2,g3,by simp [aB,n2,g4,hck5],by simp [aB,n3,g5],by simp [aB,n5,g6,aJ,List.map_set],by simp only;omega⟩
        ·have hst:qD k i n d=d:=by rw [qD,if_neg e1]
         rw [hst] at g3;refine aD ?_;simp [go_sem,hw1,e1,hjj];refine Next.mk (j+1,d,_,ny+1) ?_ (aH.slots (by simp [go_sem]) rfl rfl) (by simp only;omega);exact ⟨by simp only;omega,g2,g3,by simp [aB,n2,g4],by simp [aB,n3,g5],by simp [aB,n5,g6],by simp only;omega⟩
      ·have:j=l.length:=by omega
       subst this;rw [List.drop_length,aA.layGo,Option.bind_some,←hG2] at g3;simp [go_sem,hii];refine Next.mk (i+1,d,τ,ny) ?_ (aH.slots (by simp [go_sem]) rfl rfl) (by simp only;omega);exact ⟨by simp only;omega,g2,g3,g4,g5,g6,g7⟩
     ·have:i=q.length:=by omega
      subst this;rw [List.drop_length,aA.partGo,Option.bind_some,←hG] at g3;simp [go_sem,hkk];refine Next.mk (k+1,d,τ,ny) ?_ (aH.slots (by simp [go_sem]) rfl rfl) (by simp only;omega);exact ⟨by simp only;omega,g2,g3,g4.trans (by rw [hck5]),g5,g6,g7⟩
   ·have:k=ps.length:=by omega
    subst this;rw [List.drop_length,aA.partsGo,vP] at g3;subst g3;simp [go_sem]
def bP.sp (s:bP):aQ:=⟨⟨s.at_,s.car,s.time,s.load,s.first,s.must,s.may,s.on⟩,s.cost,s.part⟩
def cM.pf (p:cM):bE:=⟨p.least,p.parts.map fun q=>q.map fun l=>l.map bP.sp⟩
theorem aMM (p:cM):p.a=p.pf.a:=by
 have h1:∀l:lI,(l.map bP.sp).map aQ.t=l.map bP.t:=fun l=>by rw [List.map_map];rfl
 have h2:∀q:jP,cB (q.map fun l=>l.map bP.sp)=fA q:=fun q=>by
  unfold cB fA;rw [List.map_map];congr 2;refine List.map_congr_left fun l _=>?_
  show cE (l.map bP.sp)=[iQ l];rw [cE,h1,iQ]
 rw [cM.a,bE.a,bE.cs,cM.pf];simp only [List.map_map];have h3:(cB ∘ fun q:jP=>q.map fun l=>l.map bP.sp)=fA:=funext h2;rw [h3]
theorem aVN {p:cM} (h:p.good):p.pf.Fine:=by
 refine ⟨?_,fun q hq=>?_,fun q hq l hl=>?_,fun q hq l hl n hn=>?_⟩
 ·have:=h.parts;simp only [cM.pf,List.length_map];omega
 all_goals
  obtain ⟨q',hq',rfl⟩:=List.mem_map.1 hq;have hg:=h.part q' hq'
 ·have:=hg.1;rw [List.length_map];omega
 all_goals
  obtain ⟨l',hl',rfl⟩:=List.mem_map.1 hl;have hg2:=hg.2 l' hl'
 ·have:=hg2.1;rw [List.length_map];omega
 ·obtain ⟨s,hs,rfl⟩:=List.mem_map.1 hn;have ho:=(hg2.2 s hs).ok;exact ⟨ho.1,ho.2.1,ho.2.2⟩
theorem aZU (b:List Nat):(bI b).1.stops.length≤4097:=by
 have h:=yR b;unfold bI;split
 ·simp [aA.zero]
 ·unfold zA;split
  ·simp [aA.zero]
  ·split
   ·cases hl:(eA b).1 with
    |nil=>simp [lL,aA.zero]
    |cons r l=>rw [hl] at h;simp only [lL,List.length_map];simp only [List.length_cons] at h;omega
   ·simp [aA.zero]
def uO (i t c:List Nat):eH:=
 if (bI i).2≠0 then ⟨5,0,0⟩ else if (fV c).2≠0 then ⟨5,0,0⟩ else if (bI i).1.checkE (fV c).1.pf≠0 then ⟨5,0,0⟩
 else if ((bI i).1.costT t).2=0 then uP ((bI i).1.costT t).1 (fV c).1.least else ⟨5,0,0⟩
theorem aST (i t c:List Nat) (hi:i.length<2^63) (hi8:∀c∈i,c<256) (ht:t.length<2^63) (ht8:∀c∈t,c<256) (hc:c.length<2^63) (hc8:∀x∈c,x<256):Pure P 22 [.t (.sl (aS i)),.t (.sl (aS t)),.t (.sl (aS c))] ((uO i t c).a):=by
 generalize hR:uO i t c=R;refine aW Tryz.func22 rfl rfl (by simp [Tryz.f22]) (by simp [aE,aE.bndL]) (by simp [aE,aE.bndL,eH.a,eH.cs]) fun B hB hnx=>?_
 simp only [Tryz.f22] at hB ⊢;rw [uO] at hR;have h1:=y9 i hi hi8;have hlen:=aZU i;have h2:=aT1 c hc hc8;have hgood:=aT0 hc8;have h3:=fun (p:cM) (hp:p.good)=>aSZ (bI i).1 p.pf (by omega) (aVN hp)
 have h4:=aSU (bI i).1 t (by omega) ht ht8;generalize (bI i).1=x at *;generalize (bI i).2=e at *;generalize (fV c).1=p at *;generalize (fV c).2=f at *;rw [aSS,aMM] at h2;have hl:p.pf.least=p.least:=rfl;refine aD ?_;simp [go_sem];refine wW (α:=Unit) 0 (fun _=>R=⟨5,0,0⟩) (fun _=>⟨sl [(6,.ptr 0 0)],ob [(0,.box [.i 0,.i 0,.i 0])],3⟩) (fun _=>0) rfl ?_ ?_
 ·refine aD ?_;simp [go_sem];refine aL rfl rfl rfl (args:=[.t (.sl (aS i))]) (f:=16) (by simp [go_sem]) (by simp [go_sem,hB]) ((h1).spec _ _) ?_;by_cases c1:e=0
  rotate_left
  ·rw [if_pos c1] at hR;refine aD ?_;simp [go_sem,c1,aA.a];refine ⟨hR.symm,aH.of (by simp [go_sem]) (fun i=>?_) rfl⟩
   match i with
   |0=>exact .inr (by simp [ob,aB])
   |i+1=>exact .inl (by simp [ob,dR])
  rw [if_neg (fun h=>h c1)] at hR;refine aD ?_;simp [go_sem,c1,aA.a];refine aL rfl rfl rfl (args:=[.t (.sl (aS c))]) (f:=57) (by simp [go_sem]) (by simp [go_sem,hB]) ((h2).spec _ _) ?_;by_cases c2:f=0
  rotate_left
  ·rw [if_pos c2] at hR;refine aD ?_;simp [go_sem,c2,bE.a,bE.cs];refine ⟨hR.symm,aH.of (by simp [go_sem]) (fun i=>?_) rfl⟩
   match i with
   |0=>exact .inr (by simp [ob,aB])
   |i+1=>exact .inl (by simp [ob,dR])
  rw [if_neg (fun h=>h c2)] at hR;have h5:=h3 p (hgood c2).2;clear h3 hgood;generalize x.checkE p.pf=v at *;refine aD ?_;simp [go_sem,c2,bE.a,bE.cs];refine aL rfl rfl rfl (args:=[x.a,p.pf.a]) (f:=58) (by simp [go_sem,aA.a,bE.a,bE.cs]) (by simp [go_sem,hB]) ((h5).spec _ _) ?_;by_cases c3:v=0
  rotate_left
  ·rw [if_pos c3] at hR;refine aD ?_;simp [go_sem,c3];refine ⟨hR.symm,aH.of (by simp [go_sem]) (fun i=>?_) rfl⟩
   match i with
   |0=>exact .inr (by simp [ob,aB])
   |i+1=>exact .inl (by simp [ob,dR])
  rw [if_neg (fun h=>h c3)] at hR;refine aD ?_;simp [go_sem,c3];refine aL rfl rfl rfl (args:=[x.a,.t (.sl (aS t))]) (f:=59) (by simp [go_sem,aA.a]) (by simp [go_sem,hB]) ((h4).spec _ _) ?_;generalize x.costT t=w at *;by_cases c4:w.2=0
  ·rw [if_pos c4] at hR;refine aD ?_;simp [go_sem,c4];have h6:=aS4 w.1 p.pf.least;rw [hl,hR] at h6;refine aL rfl rfl rfl (args:=[.i w.1,.i p.pf.least]) (f:=60) (by simp [go_sem]) (by simp [go_sem,hB]) ((h6).spec _ _) ?_;refine aD ?_;simp [go_sem,eH.a,eH.cs]
  ·rw [if_neg c4] at hR;refine aD ?_;simp [go_sem,c4];rw [←hR];rfl
 ·rintro ⟨⟩ h;refine aD ?_;simp [go_sem];rw [h];rfl
def aK.cs (e:aK):List AV:=[.i e.bound,.i e.depth,.i e.no]
def aK.a (e:aK):AV:=.agg e.cs
def aK.t (o:Int) (e:aK):List T:=[.i e.bound,.i e.depth,.i e.no,.i o]
def lU:List Int→Int
 |[]=>0
 |a :: l=>if a=0 then lU l else a
theorem aDW (l:List Int) (hl:l.length<2^31):Pure P 313 [.t (.sl (aJ l))] (.i (lU l)):=by
 generalize hR:lU l=R;refine aW Tryz.func313 rfl rfl (by simp [Tryz.f313]) (by simp [aE,aE.bndL]) (by simp [aE,aE.bndL]) fun B hB hnx=>?_
 simp only [Tryz.f313] at hB ⊢;have hil:(aJ l).length=l.length:=List.length_map _;have hig:∀(k:Nat) (h:k<l.length),(aJ l)[k]'(by rw [hil];exact h)=[.i l[k]]:=fun k h=>gH _ h
 generalize aJ l=Y at *;refine aD ?_;simp [go_sem,hil];refine bA (α:=Nat) (fun k=>k≤l.length∧lU (l.drop k)=R) (fun k=>⟨sl [(3,.i 0),(6,.t (.sl Y)),(7,.i l.length),(8,.i k)],_,_⟩) (fun k=>l.length-k) 0 ⟨Nat.zero_le _,hR⟩ (aH.slots (by simp [go_sem]) rfl rfl) ?_;rintro k ⟨g1,g2⟩;refine aI ?_;simp [go_sem];refine bU (fun hk=>?_) (fun hk=>?_)
 ·have hkk:IntKind.i64.wrap ((k:Int)+1)=((k+1:Nat):Int):=by rw [aO ((k:Int)+1) (by omega)];rfl
  have hgk:∀h:k<Y.length,Y[k]'h=[.i l[k]]:=fun h=>hig k hk
  rw [List.drop_eq_getElem_cons hk,lU] at g2;generalize l[k]=a at *;by_cases c1:a=0
  ·rw [if_pos c1] at g2;simp [go_sem,hil,hk,hgk,c1,hkk];exact Next.mk (k+1) ⟨by omega,g2⟩ (aH.slots (by simp [go_sem]) rfl rfl) (by omega)
  ·rw [if_neg c1] at g2;subst g2;simp [go_sem,hil,hk,hgk,c1]
 ·have:k=l.length:=by omega
  subst this;rw [List.drop_length,lU] at g2;subst g2;simp [go_sem]
def uT (o:Int) (a b:aK):Int:=
 if o=0 then lU [dN a.bound b.bound,-dN a.depth b.depth,dN a.no b.no]
 else if o=1 then lU [-dN a.depth b.depth,dN a.bound b.bound,dN a.no b.no]
 else lU [dN a.no b.no,dN a.bound b.bound,dN a.depth b.depth]
theorem aS9 (o:Int) (a b:aK):decide (uT o a b<0)=cN o a b:=by
 unfold uT cN;by_cases c1:o=0
 ·rw [if_pos c1,if_pos c1];refine decide_eq_decide.2 ?_;simp only [lU,dN]
  repeat' split
  all_goals omega
 ·rw [if_neg c1,if_neg c1];by_cases c2:o=1
  ·rw [if_pos c2,if_pos c2];refine decide_eq_decide.2 ?_;simp only [lU,dN]
   repeat' split
   all_goals omega
  ·rw [if_neg c2,if_neg c2];refine decide_eq_decide.2 ?_;simp only [lU,dN]
   repeat' split
   all_goals omega
theorem aS8 (a b:Int): -1≤dN a b∧dN a b≤1:=by
 unfold dN
 repeat' split
 all_goals omega
theorem aTA (o:Int) (a b:aK):Pure P 312 [.i o,a.a,b.a] (.i (uT o a b)):=by
 generalize hR:uT o a b=R;refine aW Tryz.func312 rfl rfl (by simp [Tryz.f312]) (by simp [aE,aE.bndL,aK.a,aK.cs]) (by simp [aE,aE.bndL]) fun B hB hnx=>?_
 simp only [Tryz.f312] at hB ⊢;have h1:=uR a.bound b.bound;have h2:=uR a.depth b.depth;have h3:=uR a.no b.no;have w2:=aS8 a.depth b.depth;rw [uT] at hR;have o1:=aDW [dN a.bound b.bound,-dN a.depth b.depth,dN a.no b.no] (by simp);have o2:=aDW [-dN a.depth b.depth,dN a.bound b.bound,dN a.no b.no] (by simp);have o3:=aDW [dN a.no b.no,dN a.bound b.bound,dN a.depth b.depth] (by simp);generalize dN a.bound b.bound=cb at *;generalize dN a.depth b.depth=cd at *;generalize dN a.no b.no=cn at *;have wd:IntKind.i64.wrap (-cd)= -cd:=aO _ (by omega);refine aD ?_;simp [go_sem,aK.a,aK.cs];refine bK [] rfl (by rw [hB];kernel_rfl) ?_;refine aD ?_;simp [go_sem];refine bQ rfl rfl rfl (args:=[.i a.bound,.i b.bound]) (f:=96) (by simp [go_sem]) (h1) ?_;refine aD ?_;simp [go_sem];refine bQ rfl rfl rfl (args:=[.i a.depth,.i b.depth]) (f:=96) (by simp [go_sem]) (h2) ?_;refine aD ?_;simp [go_sem];refine bQ rfl rfl rfl (args:=[.i a.no,.i b.no]) (f:=96) (by simp [go_sem]) (h3) ?_;by_cases c1:o=0
 ·rw [if_pos c1] at hR;refine aD ?_;simp [go_sem,c1,wd];refine aL rfl rfl rfl (args:=[.fsl (aJ [cb,-cd,cn])]) (f:=313) (by simp [go_sem,aJ]) (by simp [go_sem,hB]) ((Pure.loose o1 (by simp [aE])).spec _ _) ?_;refine aD ?_;simp [go_sem];exact hR
 rw [if_neg c1] at hR;by_cases c2:o=1
 ·rw [if_pos c2] at hR;refine aD ?_;simp [go_sem,c1,c2,wd];refine aL rfl rfl rfl (args:=[.fsl (aJ [-cd,cb,cn])]) (f:=313) (by simp [go_sem,aJ]) (by simp [go_sem,hB]) ((Pure.loose o2 (by simp [aE])).spec _ _) ?_;refine aD ?_;simp [go_sem];exact hR
 rw [if_neg c2] at hR;refine aD ?_;simp [go_sem,c1,c2];refine aL rfl rfl rfl (args:=[.fsl (aJ [cn,cb,cd])]) (f:=313) (by simp [go_sem,aJ]) (by simp [go_sem,hB]) ((Pure.loose o3 (by simp [aE])).spec _ _) ?_;refine aD ?_;simp [go_sem];exact hR
theorem aVW (o:Int) (a b:aK):Pure P 311 [.i o,a.a,b.a] (.b (cN o a b)):=by
 refine aW Tryz.func311 rfl rfl (by simp [Tryz.f311]) (by simp [aE,aE.bndL,aK.a,aK.cs]) (by simp [aE,aE.bndL]) fun B hB hnx=>?_
 simp only [Tryz.f311] at hB ⊢;have h:=aTA o a b;rw [←aS9];refine aD ?_;simp [go_sem,aK.a,aK.cs];refine aL rfl rfl rfl (args:=[.i o,a.a,b.a]) (f:=312) (by simp [go_sem,aK.a,aK.cs]) (by simp [go_sem,hB]) ((h).spec _ _) ?_;refine aD ?_;simp [go_sem]
theorem aAT (o o2:Int) (a b:aK):Pure P 310 [.agg ((a.t o).map .t),.agg ((b.t o2).map .t)] (.b (cN o a b)):=by
 refine aW Tryz.func310 rfl rfl (by simp [Tryz.f310]) (by simp [aE,aE.bndL,aK.t]) (by simp [aE,aE.bndL]) fun B hB hnx=>?_
 simp only [Tryz.f310] at hB ⊢;have h:=aVW o a b;refine aD ?_;simp [go_sem,aK.t];refine aL rfl rfl rfl (args:=[.i o,a.a,b.a]) (f:=311) (by simp [go_sem,aK.a,aK.cs]) (by simp [go_sem,hB]) ((h).spec _ _) ?_;refine aD ?_;simp [go_sem]
def bV (o:Int) (l:List aK):List (List T):=l.map (aK.t o)
def mC (l:List aK) (i j:Nat):List aK:=(l.set i (l.getD j aK.zero)).set j (l.getD i aK.zero)
def qK (o:Int):Nat→List aK→Nat→List aK
 |0,l,_=>l
 |f+1,l,i=>if 0<i∧cN o (l.getD i aK.zero) (l.getD ((i-1) / 2) aK.zero)=true then qK o f (mC l i ((i-1) / 2)) ((i-1) / 2) else l
def rM (o:Int) (l:List aK) (e:aK):List aK:=qK o (l.length+1) (l++[e]) l.length
def tJ (σ:Nat→aG) (nx h q:Nat) (o:Int) (l:List aK):Nat→aG:=fun i=>if i=h then .box [.ref (nx+1),.i o] else if i=nx+1 then .arr 4 (bV o l) else if i<nx∧i≠q then σ i else .dead
theorem aWJ:((P.info? 156).bind fun info=>(info.methods.find? fun m=>m.name== "haulier/heap.ahead").map fun mm=>(mm.path,mm.func))=some (#[],some (310,false)):=by kernel_rfl
theorem aJ9:∃info mm,P.info? 156=some info∧(info.methods.find? fun m=>m.name== "haulier/heap.ahead")=some mm∧mm.path= #[]∧mm.func=some (310,false):=by obtain ⟨info,h1,h2⟩:=Option.bind_eq_some_iff.1 aWJ;obtain ⟨mm,h3,h4⟩:=Option.map_eq_some_iff.1 h2;obtain ⟨h5,h6⟩:=Prod.mk.inj h4;exact ⟨info,mm,h1,h3,h5,h6⟩
theorem kN (l:List aK) (i j:Nat):(mC l i j).length=l.length:=by simp [mC]
theorem lN (o:Int) (l:List aK):(bV o l).length=l.length:=List.length_map _
theorem lM (o:Int) (l:List aK) {k:Nat} (h:k<l.length) (h':k<(bV o l).length):(bV o l)[k]'h'=(l.getD k aK.zero).t o:=by rw [List.getD_eq_getElem?_getD,List.getElem?_eq_getElem h];exact List.getElem_map _
theorem aKA (o:Int) (l:List aK) (i j:Nat):((bV o l).set i ((l.getD j aK.zero).t o)).set j ((l.getD i aK.zero).t o)=bV o (mC l i j):=by simp [bV,mC,List.map_set]
theorem bA3 (o:Int) (l:List aK) (e:aK) (hl:l.length<2^30) {σ:Nat→aG} {nx h q:Nat} (hh:h<nx) (hσ:σ h= .box [.ref q,.i o]) (hq:q<nx) (hσq:σ q= .arr 4 (bV o l)):
  aT P 136 [.ptr h 0,.agg ((e.t o).map .t)] σ nx (.tup []) (tJ σ nx h q o (rM o l e)) (nx+2):=by
 refine vS Tryz.func136 rfl rfl (by simp [Tryz.f136]) fun B hB hnx hσB=>?_
 simp only [Tryz.f136] at hB ⊢;obtain ⟨info,mm,m1,m2,m3,m4⟩:=aJ9;have hne:¬h=nx:=by omega
 have hne2:¬q=nx:=by omega
 have hqh:¬q=h:=fun e=>by rw [e,hσ] at hσq;cases hσq
 have hil:=lN o l;have hcap:l.length+1≤bH:=by show _≤4294967296;omega
 have happ:bV o l++[[.i e.bound,.i e.depth,.i e.no,.i o]]=bV o (l++[e]):=by simp [bV,aK.t]
 have hne3:¬h=nx+1:=by omega
 have w0':IntKind.i64.wrap (l.length:Int)=(l.length:Int):=aO _ (by omega);have hne5:¬nx+1=h:=by omega
 have hne4:¬h=q:=fun e=>hqh e.symm
 have hil2:(bV o (l++[e])).length=l.length+1:=by rw [lN,List.length_append];rfl
 have w0:IntKind.i64.wrap ((l.length:Int)+1-1)=(l.length:Int):=by rw [aO _ (by omega)];omega
 generalize hR:rM o l e=R;rw [rM] at hR
 have fin:∀(τ:Nat→aG) (m:bX),τ h= .box [.ref (nx+1),.i o]→τ (nx+1)= .arr 4 (bV o R)→(∀j,j<nx→j≠h→j≠q→τ j=σ j)→Go.Proofs.YtnoifgjiipgpoaaGreatDoor.R.j9 nx (St.mk m τ (nx+2)) (.tup []) (tJ σ nx h q o R) (nx+2) (.tup []):=fun τ m k1 k2 k3=>by
  refine ⟨fun i=>?_,Nat.le_refl _,by omega,.inl rfl,.inl rfl⟩;unfold tJ;by_cases e1:i=h
  ·rw [if_pos e1,e1];exact .inr ⟨k1.symm,.inl rfl⟩
  rw [if_neg e1];by_cases e2:i=nx+1
  ·rw [if_pos e2,e2];exact .inr ⟨k2.symm,.inl rfl⟩
  rw [if_neg e2];by_cases e3:i<nx∧i≠q
  ·rw [if_pos e3];exact .inr ⟨(k3 i e3.1 e1 e3.2).symm,.inl rfl⟩
  ·rw [if_neg e3];exact .inl rfl
 refine aD ?_;simp [go_sem,aK.t]
 refine qP (α:=Nat×List aK×Nat×(Nat→aG)) 0 (fun (f,m,i,τ)=>qK o f m i=R∧i<f∧i<m.length∧m.length<2^31∧τ h= .box [.ref (nx+1),.i o]∧τ (nx+1)= .arr 4 (bV o m)∧∀j,j<nx→j≠h→j≠q→τ j=σ j)
  (fun (f,m,i,τ)=>⟨sl [(0,.ptr h 0),(4,.i i)],τ,nx+2⟩) (fun a=>a.1) rfl ?_ ?_
 ·rintro ⟨f,m,i,τ⟩ ⟨g1,g2,g3,g4,g5,g6,g7⟩;have himl:=lN o m;have w1:IntKind.i64.wrap ((i:Int)-1)=(i:Int)-1:=aO _ (by omega);obtain ⟨v,hv⟩:∃v,v=(i-1) / 2:=⟨_,rfl⟩
  have w2:IntKind.i64.wrap (Int.tdiv ((i:Int)-1) 2)=(v:Int):=by
   rw [hv];rcases Nat.eq_zero_or_pos i with e | e
   ·subst e;rfl
   ·obtain ⟨k,rfl⟩:∃k,i=k+1:=⟨i-1,by omega⟩;rw [show (((k+1:Nat):Int)-1)=(k:Int) by omega,Int.tdiv_eq_ediv_of_nonneg (by omega),aO _ (by omega)];simp
  refine aD ?_;simp [go_sem,w1,w2];obtain ⟨f,rfl⟩:∃f',f=f'+1:=⟨f-1,by omega⟩;rw [qK,←hv] at g1;by_cases c0:i=0
  ·rw [if_neg (by omega)] at g1;subst g1;subst c0;refine bK [] rfl (by rw [hB];kernel_rfl) ?_;refine aD ?_;simp [go_sem,w1];exact fin _ _ g5 g6 g7
  have hov:v<m.length:=by omega
  have hgi:=fun h=>lM o m (k:=i) g3 h
  have hgo:=fun h=>lM o m (k:=v) hov h
  have hsw:=aKA o m i v;have hneI:¬i=v:=by omega
  generalize m.getD i aK.zero=a at *;generalize m.getD v aK.zero=b at *;have hah:=aAT o o a b;have c1:0<i:=by omega
  refine bK [] rfl (by rw [hB];kernel_rfl) ?_;refine aD ?_;simp [go_sem,c1,g5,g6,himl,g3,hov,hgi,hgo,aK.t];refine nW (v:=.ifc 156 (a.t o)) (fun ho=>?_) (by simp [go_sem]) ?_
  ·exact aB1 ho (by simp [go_sem]) rfl (cG qI).1 rfl (by simp [go_sem,aK.t])
  refine aD ?_;simp [go_sem,c1,g5,g6,himl,g3,hov,hgi,hgo,aK.t];refine nW (v:=.b (cN o a b)) (fun ho=>?_) (by simp [go_sem]) ?_
  ·exact aB2 ho (by simp [go_sem]) rfl rfl rfl m1 m2 m3 m4 (cG qI).1 rfl (by first | (simp [go_sem];done) | (simp [go_sem];rfl)) (by first | (simp [go_sem,aK.t];done) | (simp [go_sem,aK.t];rfl)) (hah.spec _ _)
  cases hless:cN o a b with
  |false=>rw [if_neg (by simp [hless])] at g1;subst g1;refine aD ?_;simp [go_sem];exact fin _ _ g5 g6 g7
  |true=>
   rw [if_pos ⟨c1,hless⟩] at g1;refine aD ?_;simp [go_sem];refine cT [25,27] [9] rfl (by rw [hB];kernel_rfl) (by kernel_rfl) fun ht hf'=>?_
   have hgs:∀h:v<((bV o m).set i [.i b.bound,.i b.depth,.i b.no,.i o]).length,((bV o m).set i [.i b.bound,.i b.depth,.i b.no,.i o])[v]'h=[.i b.bound,.i b.depth,.i b.no,.i o]:=fun h=>by rw [List.getElem_set_ne hneI];exact hgo _
   have hls:((bV o m).set i [.i b.bound,.i b.depth,.i b.no,.i o]).length=m.length:=by rw [List.length_set];exact himl
   simp only [aK.t] at hsw;refine aD ?_;simp [go_sem,ht,hf',g5,g6,himl,g3,hov,hgi,hgo,hgs,hls,hsw,aK.t];refine Next.mk (f,mC m i v,v,_) ⟨g1,by simp only;omega,by rw [kN];exact hov,by rw [kN];exact g4,?_,?_,?_⟩ (aH.slots (by simp [go_sem]) rfl rfl) (by simp only;omega)
   ·simp [aB,g5,hne3]
   ·simp [aB]
   ·intro j h1 h2 h3;simp [aB,show ¬j=nx+1 by omega,g7 j h1 h2 h3]
 ·intro J hJ;refine aD ?_;simp [go_sem,hσ,hne];refine cT [7,10] [0] rfl (by rw [hB];kernel_rfl) (by kernel_rfl) fun ht hf'=>?_
  refine bG hB 22 ?_;simp [go_sem,ht,hf',hσ,hne,hne2,hne3,hne4,hne5,hσq,hil,hcap,happ,hil2,w0];refine hJ (l.length+1,l++[e],l.length,_) _ ⟨hR,by omega,by rw [List.length_append];simp,by rw [List.length_append];simp only [List.length_cons,List.length_nil];omega,?_,?_,?_⟩ (aH.slots (by simp [go_sem,w0']) rfl rfl)
  ·simp [aB]
  ·simp [aB,hne3];intro e;omega
  ·intro j h1 h2 h3;simp [aB,h2,h3,show ¬j=nx by omega,show ¬j=nx+1 by omega]
set_option maxHeartbeats 2000000
def fM (o:Int) (l:List aK) (k s:Nat):Nat:=if k<l.length∧cN o (l.getD k aK.zero) (l.getD s aK.zero)=true then k else s
def eE (o:Int) (l:List aK) (i:Nat):Nat→Nat
 |0=>i
 |j+1=>fM o l (2*i+1+j) (eE o l i j)
def pE (o:Int):Nat→List aK→Nat→List aK
 |0,l,_=>l
 |f+1,l,i=>if eE o l i 2=i then l else pE o f (mC l i (eE o l i 2)) (eE o l i 2)
def mU (o:Int) (l:List aK):List aK:=
 let m:=l.take (l.length-1)
 if m.length=0 then m else pE o (l.length+1) (m.set 0 (l.getD (l.length-1) aK.zero)) 0
def rU (σ:Nat→aG) (nx h q:Nat) (o:Int) (l:List aK):Nat→aG:=fun i=>if i=h then .box [.ref (nx+4),.i o] else if i=nx+4 then .arr 4 (bV o l) else if i<nx∧i≠q then σ i else .dead
theorem aZ6 {o:Int} {l:List aK} {k s:Nat} (h:s<l.length):fM o l k s<l.length:=by
 unfold fM;split
 ·rename_i h2;exact h2.1
 ·exact h
theorem tF {o:Int} {l:List aK} {i:Nat} (h:i<l.length):∀j,eE o l i j<l.length
 |0=>h
 |j+1=>aZ6 (tF h j)
theorem zB {o:Int} {l:List aK} {k s:Nat}:fM o l k s=k∨fM o l k s=s:=by
 unfold fM;split
 ·exact .inl rfl
 ·exact .inr rfl
theorem aMO {o:Int} {l:List aK} {i:Nat} (h:eE o l i 2≠i):i<eE o l i 2:=by have h1:=zB (o:=o) (l:=l) (k:=2*i+1+1) (s:=eE o l i 1);have h2:=zB (o:=o) (l:=l) (k:=2*i+1+0) (s:=i);have e1:eE o l i 2=fM o l (2*i+1+1) (eE o l i 1):=rfl;have e2:eE o l i 1=fM o l (2*i+1+0) i:=rfl;omega
def sQ (o:Int) (e:aK):List AV:=[.i e.bound,.i e.depth,.i e.no,.i o]
theorem bER (o:Int) {σ:Nat→aG} {nx h q:Nat} (hh:h<nx) (hσ:σ h= .box [.ref q,.i o]) (hq:q<nx) (hσq:σ q= .arr 4 []):
  aT P 86 [.ptr h 0] σ nx (.tup [.agg [.i 0,.i 0,.i 0,.i 0],.b false]) σ nx:=by
 refine iM Tryz.func86 rfl rfl (by simp [Tryz.f86]) (by simp [aE,aE.bndL]) fun hk B hB hnx hσB=>?_
 simp only [Tryz.f86] at hB ⊢;have hne:¬h=nx:=by omega
 have hne1:¬h=nx+1:=by omega
 have hne2:¬q=nx:=by omega
 have hne3:¬q=nx+1:=by omega
 refine aD ?_;simp [go_sem];refine qP (α:=Unit) 0 (fun _=>False) (fun _=>⟨sl [],dR,0⟩) (fun _=>0) rfl (fun _ h=>h.elim) ?_;intro J hJ;refine aD ?_;simp [go_sem,hσ,hne,hne1,hne2,hne3,hσq];exact ⟨by omega,fun i hi=>by simp [aB,show ¬i=nx by omega,show ¬i=nx+1 by omega]⟩
theorem bET (o:Int) (l:List aK) (hl:l.length<2^30) (hpos:0<l.length) {σ:Nat→aG} {nx h q:Nat} (hh:h<nx) (hσ:σ h= .box [.ref q,.i o]) (hq:q<nx) (hσq:σ q= .arr 4 (bV o l)):
  aT P 86 [.ptr h 0] σ nx (.tup [.agg (sQ o (l.getD 0 aK.zero)),.b true]) (rU σ nx h q o (mU o l)) (nx+5):=by
 refine vS Tryz.func86 rfl rfl (by simp [Tryz.f86]) fun B hB hnx hσB=>?_
 simp only [Tryz.f86] at hB ⊢;obtain ⟨info,mm,m1,m2,m3,m4⟩:=aJ9;have hne:¬h=nx:=by omega
 have hne1:¬h=nx+1:=by omega
 have hne2:¬q=nx:=by omega
 have hne3:¬q=nx+1:=by omega
 have hqh:¬q=h:=fun e=>by rw [e,hσ] at hσq;cases hσq
 have hhq:¬h=q:=fun e=>hqh e.symm
 have hil:=lN o l;have w0:IntKind.i64.wrap ((l.length:Int)-1)=((l.length-1:Nat):Int):=by rw [aO _ (by omega)];omega
 have hl0:¬l.length=0:=by omega
 have hg0:=fun h=>lM o l (k:=0) hpos h
 have hg1:=fun h=>lM o l (k:=l.length-1) (by omega) h
 have hpred:l.length-1<l.length:=by omega
 obtain ⟨n,hn⟩:∃n,n=l.length-1:=⟨_,rfl⟩;rw [←hn] at w0 hg1 hpred;have hle:n≤l.length:=by omega
 have htk:(bV o l).take n=bV o (l.take n):=by rw [bV,bV,List.map_take]
 generalize hR:mU o l=R;rw [mU,←hn] at hR
 try simp only at hR
 generalize hfst:l.getD 0 aK.zero=a0 at *;generalize hlst:l.getD n aK.zero=a1 at *;have hq0:(bV o l)[0]? =some [.i a0.bound,.i a0.depth,.i a0.no,.i o]:=by rw [List.getElem?_eq_getElem (by rw [hil];exact hpos),hg0];rfl
 have hq1:(bV o l)[n]? =some [.i a1.bound,.i a1.depth,.i a1.no,.i o]:=by rw [List.getElem?_eq_getElem (by rw [hil];exact hpred),hg1];rfl
 have e1:¬h=nx+1+1:=by omega
 have e2:¬h=nx+1+1+1:=by omega
 have e3:¬q=nx+1+1:=by omega
 have e4:¬q=nx+1+1+1:=by omega
 have e5:¬h=nx+1+1+1+1:=by omega
 have f1:¬nx+1+1=h:=by omega
 have f2:¬nx+1+1=q:=by omega
 have f3:¬nx+1+1+1=h:=by omega
 have f4:¬nx+1+1+1=q:=by omega
 have f5:¬nx=h:=by omega
 have f6:¬nx=q:=by omega
 have f7:¬nx+1=h:=by omega
 have f8:¬nx+1=q:=by omega
 have fa:¬nx=nx+1+1:=by omega
 have fb:¬nx=nx+1+1+1:=by omega
 have fc:¬nx=nx+1+1+1+1:=by omega
 have fin:∀(τ:Nat→aG) (m:bX) (r:AV),τ h= .box [.ref (nx+4),.i o]→τ (nx+4)= .arr 4 (bV o R)→(∀j,j<nx→j≠h→j≠q→τ j=σ j)→Go.Proofs.YtnoifgjiipgpoaaGreatDoor.R.j9 nx (St.mk m τ (nx+5)) r (rU σ nx h q o R) (nx+5) r:=fun τ m r k1 k2 k3=>by
  refine ⟨fun i=>?_,Nat.le_refl _,by omega,.inl rfl,.inl rfl⟩;unfold rU;by_cases e1:i=h
  ·rw [if_pos e1,e1];exact .inr ⟨k1.symm,.inl rfl⟩
  rw [if_neg e1];by_cases e2:i=nx+4
  ·rw [if_pos e2,e2];exact .inr ⟨k2.symm,.inl rfl⟩
  rw [if_neg e2];by_cases e3:i<nx∧i≠q
  ·rw [if_pos e3];exact .inr ⟨(k3 i e3.1 e1 e3.2).symm,.inl rfl⟩
  ·rw [if_neg e3];exact .inl rfl
 have e6:¬nx+1+1+1+1=h:=by omega
 have e7:¬nx+1+1+1+1=q:=by omega
 have hlt:(bV o (l.take n)).length=n:=by rw [lN,List.length_take];omega
 refine aD ?_;simp [go_sem]
 refine qP (α:=Nat×List aK×Nat×Nat×(Nat→aG)) 0 (fun (f,m,i,p,τ)=>pE o f m i=R∧m.length<f+i∧i<m.length∧m.length<2^30∧τ h= .box [.ref (nx+4),.i o]∧τ (nx+4)= .arr 4 (bV o m)∧(∀j,j<nx→j≠h→j≠q→τ j=σ j)∧τ p= .box (sQ o a0)∧nx+1<p∧p<nx+4∧∃cs,τ nx= .box cs∧cs.length=4)
  (fun (f,m,i,p,τ)=>⟨sl [(0,.ptr h 0),(2,.ptr nx 0),(5,.ptr p 0),(7,.i i)],τ,nx+5⟩) (fun a=>a.1) rfl ?_ ?_
 ·rintro ⟨f,m,i,p,τ⟩ ⟨g1,g2,g3,g4,g5,g6,g7,g8,g9,g10,cs,g11,g12⟩;obtain ⟨f,rfl⟩:∃f',f=f'+1:=⟨f-1,by omega⟩;rw [pE] at g1;have himl:=lN o m;have x1:IntKind.i64.wrap 1=1:=aO 1 (by omega);have x2:IntKind.i64.wrap 2=2:=aO 2 (by omega);obtain ⟨k1,hk1⟩:∃k,k=2*i+1:=⟨_,rfl⟩;obtain ⟨k2,hk2⟩:∃k,k=2*i+2:=⟨_,rfl⟩;have w1:IntKind.i64.wrap (2*(i:Int))=2*(i:Int):=aO _ (by omega);have w2:IntKind.i64.wrap (2*(i:Int)+1)=(k1:Int):=by rw [aO _ (by omega)];omega
  have w3:IntKind.i64.wrap (2*(i:Int)+2)=(k2:Int):=by rw [aO _ (by omega)];omega
  refine aD ?_;simp [go_sem,w1,w2,w3];refine bA (α:=Nat) (fun j=>j≤2) (fun j=>⟨sl [(0,.ptr h 0),(2,.ptr nx 0),(5,.ptr p 0),(7,.i i),(8,.i (eE o m i j)),(70,.agg [.i k1,.i k2]),(71,.i j)],τ,nx+5⟩) (fun j=>2-j) 0 (by omega) (aH.slots (by simp [go_sem,eE]) rfl rfl) ?_;intro j hj;obtain rfl | rfl | rfl:j=0∨j=1∨j=2:=by omega
  ·have hsl:=tF (o:=o) g3 0;have hnx:eE o m i 1=fM o m k1 (eE o m i 0):=by rw [hk1];rfl
   generalize hs8:eE o m i 0=s at *;refine aI ?_;simp [go_sem,hs8];by_cases c2:k1<m.length
   ·have hgk:=fun h=>lM o m (k:=k1) c2 h
    have hgs:=fun h=>lM o m (k:=s) hsl h
    rw [fM] at hnx;generalize m.getD k1 aK.zero=a at *;generalize m.getD s aK.zero=b at *;have hah:=aAT o o a b;refine bK [] rfl (by rw [hB];kernel_rfl) ?_;refine aI ?_;simp [go_sem,c2,g5,g6,himl,hsl,hgk,hgs,aK.t];refine nW (v:=.ifc 156 (a.t o)) (fun ho=>?_) (by simp [go_sem]) ?_
    ·exact aB1 ho (by simp [go_sem]) rfl (cG qI).1 rfl (by simp [go_sem,aK.t])
    refine aI ?_;simp [go_sem,c2,g5,g6,himl,hsl,hgk,hgs,aK.t];refine nW (v:=.b (cN o a b)) (fun ho=>?_) (by simp [go_sem]) ?_
    ·exact aB2 ho (by simp [go_sem]) rfl rfl rfl m1 m2 m3 m4 (cG qI).1 rfl (by first | (simp [go_sem];done) | (simp [go_sem];rfl)) (by first | (simp [go_sem,aK.t];done) | (simp [go_sem,aK.t];rfl)) (hah.spec _ _)
    cases hless:cN o a b with
    |false=>rw [if_neg (by simp [hless])] at hnx;refine aI ?_;simp [go_sem];exact Next.mk 1 (by omega) (aH.slots (by simp [go_sem,hnx,x1,x2]) rfl rfl) (by omega)
    |true=>rw [if_pos ⟨c2,hless⟩] at hnx;refine aI ?_;simp [go_sem];exact Next.mk 1 (by omega) (aH.slots (by simp [go_sem,hnx,x1,x2]) rfl rfl) (by omega)
   ·rw [fM,if_neg (fun h=>c2 h.1)] at hnx;refine bK [] rfl (by rw [hB];kernel_rfl) ?_;refine aI ?_;simp [go_sem,c2,g5,g6,himl];exact Next.mk 1 (by omega) (aH.slots (by simp [go_sem,hnx,x1,x2]) rfl rfl) (by omega)
  ·have hsl:=tF (o:=o) g3 1;have hnx:eE o m i 2=fM o m k2 (eE o m i 1):=by rw [hk2];rfl
   generalize hs8:eE o m i 1=s at *;refine aI ?_;simp [go_sem,hs8];by_cases c2:k2<m.length
   ·have hgk:=fun h=>lM o m (k:=k2) c2 h
    have hgs:=fun h=>lM o m (k:=s) hsl h
    rw [fM] at hnx;generalize m.getD k2 aK.zero=a at *;generalize m.getD s aK.zero=b at *;have hah:=aAT o o a b;refine bK [] rfl (by rw [hB];kernel_rfl) ?_;refine aI ?_;simp [go_sem,c2,g5,g6,himl,hsl,hgk,hgs,aK.t];refine nW (v:=.ifc 156 (a.t o)) (fun ho=>?_) (by simp [go_sem]) ?_
    ·exact aB1 ho (by simp [go_sem]) rfl (cG qI).1 rfl (by simp [go_sem,aK.t])
    refine aI ?_;simp [go_sem,c2,g5,g6,himl,hsl,hgk,hgs,aK.t];refine nW (v:=.b (cN o a b)) (fun ho=>?_) (by simp [go_sem]) ?_
    ·exact aB2 ho (by simp [go_sem]) rfl rfl rfl m1 m2 m3 m4 (cG qI).1 rfl (by first | (simp [go_sem];done) | (simp [go_sem];rfl)) (by first | (simp [go_sem,aK.t];done) | (simp [go_sem,aK.t];rfl)) (hah.spec _ _)
    cases hless:cN o a b with
    |false=>rw [if_neg (by simp [hless])] at hnx;refine aI ?_;simp [go_sem];exact Next.mk 2 (by omega) (aH.slots (by simp [go_sem,hnx,x1,x2]) rfl rfl) (by omega)
    |true=>rw [if_pos ⟨c2,hless⟩] at hnx;refine aI ?_;simp [go_sem];exact Next.mk 2 (by omega) (aH.slots (by simp [go_sem,hnx,x1,x2]) rfl rfl) (by omega)
   ·rw [fM,if_neg (fun h=>c2 h.1)] at hnx;refine bK [] rfl (by rw [hB];kernel_rfl) ?_;refine aI ?_;simp [go_sem,c2,g5,g6,himl];exact Next.mk 2 (by omega) (aH.slots (by simp [go_sem,hnx,x1,x2]) rfl rfl) (by omega)
  ·have hsl:=tF (o:=o) g3 2;have hgt:=aMO (o:=o) (l:=m) (i:=i);generalize eE o m i 2=s at *
   obtain ⟨z0,z1,z2,z3,rfl⟩:∃z0 z1 z2 z3,cs=[z0,z1,z2,z3]:=by
    match cs,g12 with
    |[z0,z1,z2,z3],_=>exact ⟨z0,z1,z2,z3,rfl⟩
   refine aI ?_;simp [go_sem];refine bU (fun c3=>?_) (fun c3=>?_)
   ·rw [if_pos c3] at g1;subst g1;simp [go_sem,g8,g11,sQ];refine fin _ _ _ ?_ ?_ fun j j1 j2 j3=>?_
    ·simp [aB,g5,hne]
    ·simp [aB,g6]
    ·simp [aB,show ¬j=nx by omega,g7 j j1 j2 j3]
   ·rw [if_neg c3] at g1;have hgi:=fun h=>lM o m (k:=i) g3 h
    have hgs:=fun h=>lM o m (k:=s) hsl h
    have hsw:=aKA o m i s;have c4:¬i=s:=fun e=>c3 e.symm
    generalize m.getD i aK.zero=a at *;generalize m.getD s aK.zero=b at *;have hgs2:∀h:s<((bV o m).set i [.i b.bound,.i b.depth,.i b.no,.i o]).length,((bV o m).set i [.i b.bound,.i b.depth,.i b.no,.i o])[s]'h=[.i b.bound,.i b.depth,.i b.no,.i o]:=fun h=>by rw [List.getElem_set_ne c4];exact hgs _
    have hls:((bV o m).set i [.i b.bound,.i b.depth,.i b.no,.i o]).length=m.length:=by rw [List.length_set];exact himl
    simp only [aK.t] at hsw;simp [go_sem];refine cT [25,27] [9] rfl (by rw [hB];kernel_rfl) (by kernel_rfl) fun ht hf'=>?_
    refine aD ?_;simp [go_sem,ht,hf',g5,g6,himl,g3,hsl,hgi,hgs,hgs2,hls,hsw,aK.t];have hgt2:=hgt c3;refine Next.mk (f,mC m i s,s,p,_) ⟨g1,by rw [kN];simp only;omega,by rw [kN];exact hsl,by rw [kN];exact g4,?_,?_,fun j j1 j2 j3=>?_,?_,g9,g10,[z0,z1,z2,z3],?_,rfl⟩ (aH.slots (by simp [go_sem]) rfl rfl) (by simp only;omega)
    ·simp [aB,g5,show ¬h=nx+4 by omega]
    ·simp [aB]
    ·simp [aB,show ¬j=nx+4 by omega,g7 j j1 j2 j3]
    ·simp [aB,show ¬p=nx+4 by omega,g8]
    ·simp [aB,g11]
 ·intro J hJ;refine aD ?_;simp [go_sem,hσ,hne,hne1,hne2,hne3,hσq,hil,hl0];refine aF8 [18,19,20,21] [0,1,2,3,4,5,6,7,8,9,10,11,12,13,14,15,16,17,18,19] 18 19 (by decide) rfl (by rw [hB];kernel_rfl) (by kernel_rfl) fun ht hf'=>?_
  refine aI ?_;simp [go_sem,ht,hf',hσ,hne,hne1,hne2,hne3,hσq,hil,hl0,hpos,hg0,hg1,hpred,w0,hq0,hq1,e1,e2,e3,e4,aK.t];refine aF3 (by kernel_rfl) ?_ ?_
  all_goals
   refine aI ?_;simp [go_sem,ht,hf',hσ,hne,hne1,hne2,hne3,hσq,hil,hl0,hpos,hg0,hg1,hpred,w0,hq0,hq1,e1,e2,e3,e4,aK.t];refine cT [11,14] [0] rfl (by rw [hB];kernel_rfl) (by kernel_rfl) fun ht hf'=>?_
   refine aI ?_;simp [go_sem,ht,hf',hσ,hne,hne1,hne2,hne3,hσq,hil,hl0,hpos,hg0,hg1,hpred,w0,hq0,hq1,e1,e2,e3,e4,aK.t];apply wU
   ·intro ho;exact aUB (q:=q) (es:=bV o l) (sz:=4) (n:=n) (ik:=.i64) ho (by simp [go_sem]) rfl aO2 rfl qI (by simp [go_sem]) (by simp [aB,hne2,hne3,e3,e4,hσq]) (by simp [go_sem]) (by omega) (by omega)
   ·simp
   ·simp
   rw [htk];refine aI ?_;simp [go_sem,ht,hf',hσ,hne,hne1,hne2,hne3,hhq,hqh,hσq,hlt,e1,e2,e3,e4,e5,e6,e7];refine bU (fun c1=>?_) (fun c1=>?_)
  ·rw [if_pos (by rw [←lN o,hlt];exact c1)] at hR;subst hR;simp [go_sem,hne,hne1,e1,e2,e3,e4,e5,e6,e7,f1,f2,f3,f4,f5,f6,f7,f8,fa,fb,fc];refine fin _ _ _ ?_ ?_ fun j j1 j2 j3=>?_
   ·simp [aB,hne,hne1,e1,e2,e3,e4,e5,e6,e7,f1,f2,f3,f4,f5,f6,f7,f8,fa,fb,fc]
   ·simp [aB,hne,hne1,e1,e2,e3,e4,e5,e6,e7,f1,f2,f3,f4,f5,f6,f7,f8,fa,fb,fc]
   ·simp [aB,j2,j3,show ¬j=nx by omega,show ¬j=nx+1 by omega,show ¬j=nx+1+1 by omega,show ¬j=nx+1+1+1 by omega,show ¬j=nx+1+1+1+1 by omega]
  ·rw [if_neg (by rw [←lN o,hlt];exact c1)] at hR;have c2:0<n:=by omega
   have hset:(bV o (l.take n)).set 0 [.i a1.bound,.i a1.depth,.i a1.no,.i o]=bV o ((l.take n).set 0 a1):=by simp [bV,List.map_set,aK.t]
   have hgf0:(bV o (l.take n))[0]? =some [.i a0.bound,.i a0.depth,.i a0.no,.i o]:=by rw [←htk,List.getElem?_take,if_pos c2,hq0]
   have hgf:∀h:0<(bV o (l.take n)).length,(bV o (l.take n))[0]'h=[.i a0.bound,.i a0.depth,.i a0.no,.i o]:=fun h=>(List.getElem?_eq_some_iff.1 hgf0).2
   simp [go_sem,hne,hne1,e1,e2,e3,e4,e5,e6,e7,f1,f2,f3,f4,f5,f6,f7,f8,fa,fb,fc];refine gQ [6] rfl (by rw [hB];kernel_rfl) (by kernel_rfl) fun ht=>?_
   refine bG hB 12 ?_;simp [go_sem,ht,hhq,hqh,hlt,c2,hset,hgf,hne,hne1,e1,e2,e3,e4,e5,e6,e7,f1,f2,f3,f4,f5,f6,f7,f8,fa,fb,fc];refine hJ (l.length+1,(l.take n).set 0 a1,0,nx+2,_) _ ⟨hR,?_,?_,?_,?_,?_,fun j j1 j2 j3=>?_,?_,?_,?_,[.i 0,.i 0,.i 0,.i 0],?_,rfl⟩ (aH.slots (by simp [go_sem]) rfl rfl)
   ·simp only [List.length_set,List.length_take];omega
   ·simp only [List.length_set,List.length_take];omega
   ·simp only [List.length_set,List.length_take];omega
   ·simp [aB,hne,hne1,e1,e2,e3,e4,e5,e6,e7,f1,f2,f3,f4,f5,f6,f7,f8,fa,fb,fc]
   ·simp [aB,hne,hne1,e1,e2,e3,e4,e5,e6,e7,f1,f2,f3,f4,f5,f6,f7,f8,fa,fb,fc]
   ·simp [aB,j2,j3,show ¬j=nx by omega,show ¬j=nx+1 by omega,show ¬j=nx+1+1 by omega,show ¬j=nx+1+1+1 by omega,show ¬j=nx+1+1+1+1 by omega]
   ·simp [aB,sQ,hne,hne1,e1,e2,e3,e4,e5,e6,e7,f1,f2,f3,f4,f5,f6,f7,f8,fa,fb,fc]
   ·omega
   ·omega
   ·simp [aB,hne,hne1,e1,e2,e3,e4,e5,e6,e7,f1,f2,f3,f4,f5,f6,f7,f8,fa,fb,fc]
  ·rw [if_pos (by rw [←lN o,hlt];exact c1)] at hR;subst hR;simp [go_sem,hne,hne1,e1,e2,e3,e4,e5,e6,e7,f1,f2,f3,f4,f5,f6,f7,f8,fa,fb,fc];refine fin _ _ _ ?_ ?_ fun j j1 j2 j3=>?_
   ·simp [aB,hne,hne1,e1,e2,e3,e4,e5,e6,e7,f1,f2,f3,f4,f5,f6,f7,f8,fa,fb,fc]
   ·simp [aB,hne,hne1,e1,e2,e3,e4,e5,e6,e7,f1,f2,f3,f4,f5,f6,f7,f8,fa,fb,fc]
   ·simp [aB,j2,j3,show ¬j=nx by omega,show ¬j=nx+1 by omega,show ¬j=nx+1+1 by omega,show ¬j=nx+1+1+1 by omega,show ¬j=nx+1+1+1+1 by omega]
  ·rw [if_neg (by rw [←lN o,hlt];exact c1)] at hR;have c2:0<n:=by omega
   have hset:(bV o (l.take n)).set 0 [.i a1.bound,.i a1.depth,.i a1.no,.i o]=bV o ((l.take n).set 0 a1):=by simp [bV,List.map_set,aK.t]
   have hgf0:(bV o (l.take n))[0]? =some [.i a0.bound,.i a0.depth,.i a0.no,.i o]:=by rw [←htk,List.getElem?_take,if_pos c2,hq0]
   have hgf:∀h:0<(bV o (l.take n)).length,(bV o (l.take n))[0]'h=[.i a0.bound,.i a0.depth,.i a0.no,.i o]:=fun h=>(List.getElem?_eq_some_iff.1 hgf0).2
   simp [go_sem,hne,hne1,e1,e2,e3,e4,e5,e6,e7,f1,f2,f3,f4,f5,f6,f7,f8,fa,fb,fc];refine gQ [6] rfl (by rw [hB];kernel_rfl) (by kernel_rfl) fun ht=>?_
   refine bG hB 12 ?_;simp [go_sem,ht,hhq,hqh,hlt,c2,hset,hgf,hne,hne1,e1,e2,e3,e4,e5,e6,e7,f1,f2,f3,f4,f5,f6,f7,f8,fa,fb,fc];refine hJ (l.length+1,(l.take n).set 0 a1,0,nx+3,_) _ ⟨hR,?_,?_,?_,?_,?_,fun j j1 j2 j3=>?_,?_,?_,?_,[.i 0,.i 0,.i 0,.i 0],?_,rfl⟩ (aH.slots (by simp [go_sem]) rfl rfl)
   ·simp only [List.length_set,List.length_take];omega
   ·simp only [List.length_set,List.length_take];omega
   ·simp only [List.length_set,List.length_take];omega
   ·simp [aB,hne,hne1,e1,e2,e3,e4,e5,e6,e7,f1,f2,f3,f4,f5,f6,f7,f8,fa,fb,fc]
   ·simp [aB,hne,hne1,e1,e2,e3,e4,e5,e6,e7,f1,f2,f3,f4,f5,f6,f7,f8,fa,fb,fc]
   ·simp [aB,j2,j3,show ¬j=nx by omega,show ¬j=nx+1 by omega,show ¬j=nx+1+1 by omega,show ¬j=nx+1+1+1 by omega,show ¬j=nx+1+1+1+1 by omega]
   ·simp [aB,sQ,hne,hne1,e1,e2,e3,e4,e5,e6,e7,f1,f2,f3,f4,f5,f6,f7,f8,fa,fb,fc]
   ·omega
   ·omega
   ·simp [aB,hne,hne1,e1,e2,e3,e4,e5,e6,e7,f1,f2,f3,f4,f5,f6,f7,f8,fa,fb,fc]
theorem nJ {l:List aK} {i:Nat} (h:i<l.length):l.getD i aK.zero=l[i]:=by rw [List.getD_eq_getElem?_getD,List.getElem?_eq_getElem h];rfl
theorem aOX {l:List aK} {i j:Nat} (hi:i<l.length) (hj:j<l.length):(mC l i j).Perm l:=by rw [mC,nJ hi,nJ hj];exact List.set_set_perm hi hj
theorem aPA (o:Int):∀(f:Nat) (l:List aK) (i:Nat),i<l.length→(qK o f l i).Perm l
 |0,l,i,_=>List.Perm.refl _
 |f+1,l,i,h=>by
  rw [qK];split
  ·have hv:(i-1) / 2<l.length:=by omega
   exact (aPA o f _ _ (by rw [kN];exact hv)).trans (aOX h hv)
  ·exact List.Perm.refl _
theorem bA0 (o:Int) (l:List aK) (e:aK):(rM o l e).Perm (l++[e]):=aPA o _ _ _ (by simp)
theorem aH3 (o:Int):∀(f:Nat) (l:List aK) (i:Nat),i<l.length→(pE o f l i).Perm l
 |0,l,i,_=>List.Perm.refl _
 |f+1,l,i,h=>by
  rw [pE];split
  ·exact List.Perm.refl _
  ·have hv:=tF (o:=o) h 2;exact (aH3 o f _ _ (by rw [kN];exact hv)).trans (aOX h hv)
theorem bBL (o:Int) {l:List aK} (hpos:0<l.length):(l.getD 0 aK.zero :: mU o l).Perm l:=by
 rw [mU]
 try simp only
 have hd:l=l.take (l.length-1)++[l[l.length-1]'(by omega)]:=by have h1:=List.drop_eq_getElem_cons (l:=l) (i:=l.length-1) (by omega);rw [List.drop_eq_nil_of_le (by omega:l.length≤l.length-1+1)] at h1;rw [←h1,List.take_append_drop]
 rw [nJ hpos,nJ (i:=l.length-1) (by omega)];generalize hx:l[l.length-1]'(by omega)=x at *;generalize hm:l.take (l.length-1)=m at *;split
 ·rename_i h0;have hm0:m=[]:=List.eq_nil_of_length_eq_zero h0;subst hm0;rw [List.nil_append] at hd;have:l[0]=x:=by simp [hd]
  rw [this,hd]
 ·rename_i h0;have hp:=aH3 o (l.length+1) (m.set 0 x) 0 (by rw [List.length_set];omega);cases m with
  |nil=>exact absurd rfl h0
  |cons y m=>
   have:l[0]=y:=by simp [hd]
   rw [this];rw [List.set_cons_zero] at hp;refine (hp.cons y).trans ?_
   conv=>rhs;rw [hd]
   rw [List.cons_append];refine List.Perm.cons y ?_;exact (List.perm_append_comm (l₁:=[x]) (l₂:=m))
theorem rH (o:Int) {a b c:aK} (h1:cN o b a=false) (h2:cN o c b=false):cN o c a=false:=by
 unfold cN at *;split at h1
 ·rename_i h;rw [if_pos h] at h2 ⊢;simp only [decide_eq_false_iff_not] at *;omega
 ·rename_i h;rw [if_neg h] at h2 ⊢;split at h1
  ·rename_i h';rw [if_pos h'] at h2 ⊢;simp only [decide_eq_false_iff_not] at *;omega
  ·rename_i h';rw [if_neg h'] at h2 ⊢;simp only [decide_eq_false_iff_not] at *;omega
theorem vD (o:Int) {a b:aK} (h:cN o a b=true):cN o b a=false:=by
 unfold cN at *;split at h
 ·rename_i h';rw [if_pos h'];simp only [decide_eq_true_eq,decide_eq_false_iff_not] at *;omega
 ·rename_i h';rw [if_neg h'];split at h
  ·rename_i h'';rw [if_pos h''];simp only [decide_eq_true_eq,decide_eq_false_iff_not] at *;omega
  ·rename_i h'';rw [if_neg h''];simp only [decide_eq_true_eq,decide_eq_false_iff_not] at *;omega
def nV (o:Int) (l:List aK):Prop:=∀i,0<i→i<l.length→cN o (l.getD i aK.zero) (l.getD ((i-1) / 2) aK.zero)=false
theorem aVU {o:Int} {l:List aK} (h:nV o l):∀i,i<l.length→cN o (l.getD i aK.zero) (l.getD 0 aK.zero)=false:=by
 intro i
 induction i using Nat.strongRecOn with
 |_ i ih=>
  intro hi;by_cases h0:i=0
  ·subst h0;cases hl:cN o (l.getD 0 aK.zero) (l.getD 0 aK.zero) with
   |false=>rfl
   |true=>have:=vD o hl;rw [hl] at this;exact this
  ·exact rH o (ih ((i-1) / 2) (by omega) (by omega)) (h i (by omega) hi)
theorem qF {l:List aK} {i j k:Nat} (hi:i<l.length) (hj:j<l.length):(mC l i j).getD k aK.zero=if k=j then l.getD i aK.zero else if k=i then l.getD j aK.zero else l.getD k aK.zero:=by
 simp only [mC,List.getD_eq_getElem?_getD,List.getElem?_set,List.length_set];by_cases h1:k=j
 ·subst h1;simp [hj]
 ·rw [if_neg (fun e=>h1 e.symm),if_neg h1];by_cases h2:k=i
  ·subst h2;simp [hi]
  ·rw [if_neg (fun e=>h2 e.symm),if_neg h2]
structure UpI (o:Int) (l:List aK) (i:Nat):Prop where
 lt:i<l.length
 ok:∀k,0<k→k<l.length→k≠i→cN o (l.getD k aK.zero) (l.getD ((k-1) / 2) aK.zero)=false
 kid:∀k,0<k→k<l.length→(k-1) / 2=i→0<i→cN o (l.getD k aK.zero) (l.getD ((i-1) / 2) aK.zero)=false
theorem aO9 (o:Int):∀(f:Nat) (l:List aK) (i:Nat),UpI o l i→i<f→nV o (qK o f l i)
 |0,l,i,_,h=>absurd h (Nat.not_lt_zero _)
 |f+1,l,i,h,hf=>by
  rw [qK];split
  ·rename_i hc;have hi:=h.lt;obtain ⟨v,hv⟩:∃v,v=(i-1) / 2:=⟨_,rfl⟩;rw [←hv] at hc ⊢;have hvl:v<l.length:=by omega
   have hless:=vD o hc.2;refine aO9 o f _ _ ⟨by rw [kN];exact hvl,fun k k0 kl kv=>?_,fun k k0 kl kv v0=>?_⟩ (by omega)
   ·rw [kN] at kl;rw [qF hi hvl,qF hi hvl,if_neg kv];by_cases k1:k=i
    ·subst k1;rw [if_pos rfl,if_pos hv.symm];exact hless
    ·rw [if_neg k1];by_cases k2:(k-1) / 2=v
     ·rw [if_pos k2];have:=h.ok k k0 kl k1;rw [k2] at this;exact rH o hless this
     ·rw [if_neg k2];by_cases k3:(k-1) / 2=i
      ·rw [if_pos k3];have:=h.kid k k0 kl k3 hc.1;rw [←hv] at this;exact this
      ·rw [if_neg k3];exact h.ok k k0 kl k1
   ·rw [kN] at kl;rw [qF hi hvl,qF hi hvl,if_neg (by omega),if_neg (show ¬(v-1) / 2=v by omega),if_neg (show ¬(v-1) / 2=i by omega)];have hvo:=h.ok v v0 hvl (by omega);by_cases k1:k=i
    ·rw [if_pos k1];exact hvo
    ·rw [if_neg k1];have:=h.ok k k0 kl k1;rw [kv] at this;exact rH o hvo this
  ·rename_i hc;intro k k0 kl;by_cases k1:k=i
   ·subst k1;cases hl:cN o (l.getD k aK.zero) (l.getD ((k-1) / 2) aK.zero) with
    |false=>rfl
    |true=>exact absurd ⟨k0,hl⟩ hc
   ·exact h.ok k k0 kl k1
theorem bAZ {o:Int} {l:List aK} (h:nV o l) (e:aK):nV o (rM o l e):=by
 refine aO9 o _ _ _ ⟨by simp,fun k k0 kl kv=>?_,fun k k0 kl kv _=>?_⟩ (by omega)
 ·rw [List.length_append] at kl;simp only [List.length_cons,List.length_nil] at kl;have:=h k k0 (by omega);simp only [List.getD_eq_getElem?_getD] at this ⊢;rw [List.getElem?_append_left (by omega),List.getElem?_append_left (by omega)];exact this
 ·rw [List.length_append] at kl;simp only [List.length_cons,List.length_nil] at kl;omega
theorem aCU (o:Int) (a:aK):cN o a a=false:=by
 cases h:cN o a a with
 |false=>rfl
 |true=>have:=vD o h;rw [h] at this;exact this
theorem aMN (o:Int) (l:List aK) (k s:Nat):cN o (l.getD s aK.zero) (l.getD (fM o l k s) aK.zero)=false∧(k<l.length→cN o (l.getD k aK.zero) (l.getD (fM o l k s) aK.zero)=false):=by
 unfold fM;split
 ·rename_i h;exact ⟨vD o h.2,fun _=>aCU o _⟩
 ·rename_i h;refine ⟨aCU o _,fun hk=>?_⟩;cases hl:cN o (l.getD k aK.zero) (l.getD s aK.zero) with
  |false=>rfl
  |true=>exact absurd ⟨hk,hl⟩ h
theorem aZ9 (o:Int) (l:List aK) (i:Nat):cN o (l.getD i aK.zero) (l.getD (eE o l i 2) aK.zero)=false∧∀k,(k-1) / 2=i→0<k→k<l.length→cN o (l.getD k aK.zero) (l.getD (eE o l i 2) aK.zero)=false:=by
 have e2:eE o l i 2=fM o l (2*i+1+1) (fM o l (2*i+1+0) i):=rfl;obtain ⟨a1,a2⟩:=aMN o l (2*i+1+0) i;obtain ⟨b1,b2⟩:=aMN o l (2*i+1+1) (fM o l (2*i+1+0) i);rw [←e2] at b1 b2;refine ⟨rH o b1 a1,fun k hk k0 kl=>?_⟩;by_cases h:k=2*i+1+1
 ·subst h;exact b2 kl
 ·have:k=2*i+1+0:=by omega
  subst this;exact rH o b1 (a2 kl)
theorem bAA {o:Int} {l:List aK} {i:Nat} (h:eE o l i 2≠i):(eE o l i 2-1) / 2=i:=by have h1:=zB (o:=o) (l:=l) (k:=2*i+1+1) (s:=eE o l i 1);have h2:=zB (o:=o) (l:=l) (k:=2*i+1+0) (s:=i);have e1:eE o l i 2=fM o l (2*i+1+1) (eE o l i 1):=rfl;have e2:eE o l i 1=fM o l (2*i+1+0) i:=rfl;omega
structure aP2 (o:Int) (l:List aK) (i:Nat):Prop where
 lt:i<l.length
 ok:∀k,0<k→k<l.length→(k-1) / 2≠i→cN o (l.getD k aK.zero) (l.getD ((k-1) / 2) aK.zero)=false
 kid:∀k,0<k→k<l.length→(k-1) / 2=i→0<i→cN o (l.getD k aK.zero) (l.getD ((i-1) / 2) aK.zero)=false
theorem aH2 (o:Int):∀(f:Nat) (l:List aK) (i:Nat),aP2 o l i→l.length<f+i→nV o (pE o f l i)
 |0,l,i,h,hf=>absurd h.lt (by omega)
 |f+1,l,i,h,hf=>by
  rw [pE];obtain ⟨m1,m2⟩:=aZ9 o l i;have hi:=h.lt;have hsl:=tF (o:=o) hi 2;have hgt:=aMO (o:=o) (l:=l) (i:=i);have hpar:=bAA (o:=o) (l:=l) (i:=i);generalize eE o l i 2=s at *;split
  ·rename_i hs;subst hs;intro k k0 kl;by_cases k1:(k-1) / 2=s
   ·rw [k1];exact m2 k k1 k0 kl
   ·exact h.ok k k0 kl k1
  ·rename_i hs;have hgt:=hgt hs;have hpar:=hpar hs;refine aH2 o f _ _ ⟨by rw [kN];exact hsl,fun k k0 kl kv=>?_,fun k k0 kl kv _=>?_⟩ (by rw [kN];omega)
   ·rw [kN] at kl;rw [qF hi hsl,qF hi hsl,if_neg kv];by_cases k1:k=s
    ·subst k1;rw [if_pos rfl,if_pos hpar];exact m1
    ·rw [if_neg k1];by_cases k2:k=i
     ·subst k2;rw [if_pos rfl,if_neg (by omega)];exact h.kid s (by omega) hsl hpar k0
     ·rw [if_neg k2];by_cases k3:(k-1) / 2=i
      ·rw [if_pos k3];exact m2 k k3 k0 kl
      ·rw [if_neg k3];exact h.ok k k0 kl k3
   ·rw [kN] at kl;rw [qF hi hsl,qF hi hsl,if_neg (by omega),if_neg (by omega),hpar,if_neg (by omega),if_pos rfl];have:=h.ok k k0 kl (by omega);rw [kv] at this;exact this
theorem bBK {o:Int} {l:List aK} (h:nV o l) (hpos:0<l.length):nV o (mU o l):=by
 rw [mU]
 try simp only
 have ht:∀k,k<l.length-1→(l.take (l.length-1)).getD k aK.zero=l.getD k aK.zero:=fun k hk=>by simp only [List.getD_eq_getElem?_getD,List.getElem?_take,if_pos hk]
 have hlen:(l.take (l.length-1)).length=l.length-1:=by rw [List.length_take];omega
 generalize l.getD (l.length-1) aK.zero=x;generalize l.take (l.length-1)=m at *;have hs:∀k,0<k→(m.set 0 x).getD k aK.zero=m.getD k aK.zero:=fun k hk=>by simp only [List.getD_eq_getElem?_getD,List.getElem?_set_ne (show 0≠k by omega)]
 split
 ·rename_i h0;intro k _ kl;omega
 ·rename_i h0;refine aH2 o _ _ _ ⟨by rw [List.length_set];omega,fun k k0 kl kv=>?_,fun k k0 kl kv k1=>absurd k1 (Nat.lt_irrefl 0)⟩ (by rw [List.length_set];omega);rw [List.length_set] at kl;rw [hs k k0,hs _ (by omega),ht k (by omega),ht _ (by omega)];exact h k k0 (by omega)
theorem aW5 (o:Int) {a b:aK} (h1:cN o a b=false) (h2:cN o b a=false):a=b:=by
 have key:a.bound=b.bound∧a.depth=b.depth∧a.no=b.no:=by
  unfold cN at *;split at h1
  ·rename_i h;rw [if_pos h] at h2;simp only [decide_eq_false_iff_not] at *;omega
  ·rename_i h;rw [if_neg h] at h2;split at h1
   ·rename_i h';rw [if_pos h'] at h2;simp only [decide_eq_false_iff_not] at *;omega
   ·rename_i h';rw [if_neg h'] at h2;simp only [decide_eq_false_iff_not] at *;omega
 obtain ⟨a1,a2,a3⟩:=a;obtain ⟨b1,b2,b3⟩:=b;simp only at key;obtain ⟨rfl,rfl,rfl⟩:=key;rfl
theorem aLF (o:Int) (q:List aK):∀(l:List Nat) (k r:Nat),l.foldl (fun k i=>if cN o (q.getD i aK.zero) (q.getD k aK.zero)=true then i else k) k=r→cN o (q.getD k aK.zero) (q.getD r aK.zero)=false∧∀i∈l,cN o (q.getD i aK.zero) (q.getD r aK.zero)=false
 |[],k,r,h=>by rw [List.foldl_nil] at h;subst h;exact ⟨aCU o _,fun i hi=>by cases hi⟩
 |i :: l,k,r,h=>by
  rw [List.foldl_cons] at h;obtain ⟨h1,h2⟩:=aLF o q l _ r h;by_cases hl:cN o (q.getD i aK.zero) (q.getD k aK.zero)=true
  ·rw [if_pos hl] at h1;refine ⟨rH o h1 (vD o hl),fun j hj=>?_⟩;rcases List.mem_cons.1 hj with rfl | hj
   ·exact h1
   ·exact h2 j hj
  ·rw [if_neg hl] at h1;have hl':cN o (q.getD i aK.zero) (q.getD k aK.zero)=false:=by simpa using hl
   refine ⟨h1,fun j hj=>?_⟩;rcases List.mem_cons.1 hj with rfl | hj
   ·exact rH o h1 hl'
   ·exact h2 j hj
theorem bEP {o:Int} {l q:List aK} (hp:l.Perm q) (hok:nV o l) (hpos:0<l.length):∃q',gB o q=some (l.getD 0 aK.zero,q')∧(mU o l).Perm q':=by
 have hlen:=hp.length_eq;have hq:q≠[]:=fun e=>by rw [e,List.length_nil] at hlen;omega
 have hk:=yX o hq;have hmin:=fun i hi=>(aLF o q (List.range q.length) 0 (dV o q) rfl).2 i (List.mem_range.2 hi)
 have hd:q=q.take (dV o q)++q[dV o q] :: q.drop (dV o q+1):=by rw [←List.drop_eq_getElem_cons hk,List.take_append_drop]
 have hmem:l.getD 0 aK.zero∈q:=by rw [nJ hpos];exact hp.subset (List.getElem_mem _)
 have hmem2:q.getD (dV o q) aK.zero∈l:=by rw [nJ hk];exact hp.symm.subset (List.getElem_mem _)
 have he:q.getD (dV o q) aK.zero=l.getD 0 aK.zero:=by obtain ⟨i,hi,e1⟩:=List.getElem_of_mem hmem;obtain ⟨j,hj,e2⟩:=List.getElem_of_mem hmem2;have h1:=hmin i hi;have h2:=aVU hok j hj;rw [nJ hi,e1] at h1;rw [nJ hj,e2] at h2;exact aW5 o h2 h1
 refine ⟨q.take (dV o q)++q.drop (dV o q+1),by rw [gB,if_neg hq,he],?_⟩;have h3:=(bBL o hpos).trans hp;have h4:(l.getD 0 aK.zero :: (q.take (dV o q)++q.drop (dV o q+1))).Perm q:=by rw [←he,nJ hk];refine List.perm_middle.symm.trans ?_;rw [←hd]
 exact (h3.trans h4.symm).cons_inv
theorem aKQ:∀(l:List aK) (n:Int),l.foldl (fun n f=>min n f.bound) n=n∨∃f∈l,l.foldl (fun n f=>min n f.bound) n=f.bound
 |[],n=>.inl rfl
 |e :: l,n=>by
  rw [List.foldl_cons];rcases aKQ l (min n e.bound) with h | ⟨f,hf,h⟩
  ·rw [h];by_cases c:n≤e.bound
   ·exact .inl (by omega)
   ·exact .inr ⟨e,List.mem_cons_self,by omega⟩
  ·exact .inr ⟨f,List.mem_cons_of_mem _ hf,h⟩
theorem aKR {q:List aK} (h:q≠[]):∃f∈q,jU q=f.bound:=by
 cases q with
 |nil=>exact absurd rfl h
 |cons e l=>
  rcases aKQ l e.bound with h1 | ⟨f,hf,h1⟩
  ·exact ⟨e,List.mem_cons_self,h1⟩
  ·exact ⟨f,List.mem_cons_of_mem _ hf,h1⟩
theorem aWZ {l q:List aK} (h:l.Perm q):jU l=jU q:=by
 by_cases hl:l=[]
 ·subst hl;rw [h.symm.eq_nil]
 ·have hq:q≠[]:=fun e=>hl (by rw [e] at h;exact h.eq_nil)
  obtain ⟨f,hf,e1⟩:=aKR hl;obtain ⟨g,hg,e2⟩:=aKR hq;have h1:=yM (h.subset hf);have h2:=yM (h.symm.subset hg);omega
set_option maxHeartbeats 1000000
theorem aW4 (o:Int) (l:List aK) {σ:Nat→aG} {nx h q:Nat} (hh:h<nx) (hσ:σ h= .box [.ref q,.i o]) (hq:q<nx) (hσq:σ q= .arr 4 (bV o l)):
  aT P 87 [.ptr h 0] σ nx (.i l.length) σ nx:=by
 refine iM Tryz.func87 rfl rfl (by simp [Tryz.f87]) (by simp [aE]) fun hk B hB hnx hσB=>?_
 simp only [Tryz.f87] at hB ⊢;have hil:=lN o l;refine aD ?_;simp [go_sem,hσ,hσq,hil]
theorem aV2 (o:Int) (l:List aK) (e:aK) (hl:l.length<2^30) {σ:Nat→aG} {nx h q:Nat} (hh:h<nx) (hσ:σ h= .box [.ref q,.i o]) (hq:q<nx) (hσq:σ q= .arr 4 (bV o l)):
  bN P 85 [.ptr h 0,e.a] σ nx fun r σ' nx'=>r= .tup []∧nx≤nx'∧∃q',nx≤q'∧q'<nx'∧σ' h= .box [.ref q',.i o]∧σ' q'= .arr 4 (bV o (rM o l e))∧∀i,i<nx→i≠h→i≠q→σ' i=σ i:=by
 refine cA Tryz.func85 rfl rfl (by simp [Tryz.f85]) fun B hB hnx hσB=>?_
 simp only [Tryz.f85] at hB ⊢;have hne:¬h=nx:=by omega
 have hne2:¬q=nx:=by omega
 have hp:=fun (τ:Nat→aG) (h1:τ h= .box [.ref q,.i o]) (h2:τ q= .arr 4 (bV o l))=>bA3 o l e hl (σ:=τ) (nx:=nx+1) (h:=h) (q:=q) (by omega) h1 (by omega) h2
 refine aD ?_;simp [go_sem,aK.a,aK.cs];refine aAP [] 9 _ rfl (by rw [hB];kernel_rfl) (by kernel_rfl) rfl ?_;refine aD ?_;simp [go_sem,hσ,hne];refine aL rfl rfl rfl (args:=[.ptr h 0,.agg ((e.t o).map .t)]) (f:=136) (by simp [go_sem,aK.t]) (by simp [go_sem,hB]) (hp _ (by simp [aB,hne,hσ]) (by simp [aB,hne2,hσq])) ?_;refine aD ?_;simp [go_sem];have e1:¬nx+1+1=h:=by omega
 have e2:¬h=nx+1+1:=by omega
 refine ⟨by omega,nx+1+1,by omega,by omega,by rw [tJ,if_pos rfl],by rw [tJ,if_neg e1,if_pos rfl],fun i h1 h2 h3=>?_⟩;rw [tJ,if_neg h2,if_neg (by omega),if_pos ⟨by omega,h3⟩,aB,if_neg (by omega)]
theorem aV3 (o:Int) {σ:Nat→aG} {nx h q:Nat} (hh:h<nx) (hσ:σ h= .box [.ref q,.i o]) (hq:q<nx) (hσq:σ q= .arr 4 []):
  aT P 48 [.ptr h 0] σ nx (.tup [aK.zero.a,.b false]) σ nx:=by
 refine iM Tryz.func48 rfl rfl (by simp [Tryz.f48]) (by simp [aE,aE.bndL,aK.a,aK.cs]) fun hk B hB hnx hσB=>?_
 simp only [Tryz.f48] at hB ⊢;have hne:¬h=nx:=by omega
 have hne2:¬q=nx:=by omega
 have hp:=fun (τ:Nat→aG) (h1:τ h= .box [.ref q,.i o]) (h2:τ q= .arr 4 [])=>bER o (σ:=τ) (nx:=nx+1) (h:=h) (q:=q) (by omega) h1 (by omega) h2
 refine aD ?_;simp [go_sem];refine aL rfl rfl rfl (args:=[.ptr h 0]) (f:=86) (by simp [go_sem]) (by simp [go_sem,hB]) (hp _ (by simp [aB,hne,hσ]) (by simp [aB,hne2,hσq])) ?_;refine aD ?_;simp [go_sem,aK.a,aK.cs,aK.zero];exact ⟨by omega,fun i hi=>by simp [aB,show ¬i=nx by omega,show ¬i=nx+1 by omega]⟩
theorem aV4 (o:Int) (l:List aK) (hl:l.length<2^30) (hpos:0<l.length) {σ:Nat→aG} {nx h q:Nat} (hh:h<nx) (hσ:σ h= .box [.ref q,.i o]) (hq:q<nx) (hσq:σ q= .arr 4 (bV o l)):
  bN P 48 [.ptr h 0] σ nx fun r σ' nx'=>r= .tup [(l.getD 0 aK.zero).a,.b true]∧nx≤nx'∧∃q',nx≤q'∧q'<nx'∧σ' h= .box [.ref q',.i o]∧σ' q'= .arr 4 (bV o (mU o l))∧∀i,i<nx→i≠h→i≠q→σ' i=σ i:=by
 refine cA Tryz.func48 rfl rfl (by simp [Tryz.f48]) fun B hB hnx hσB=>?_
 simp only [Tryz.f48] at hB ⊢;have hne:¬h=nx:=by omega
 have hne2:¬q=nx:=by omega
 have e1:¬nx+1+4=h:=by omega
 have e2:¬h=nx+1+4:=by omega
 have e3:¬nx=h:=by omega
 have e4:¬nx=q:=by omega
 have hp:=fun (τ:Nat→aG) (h1:τ h= .box [.ref q,.i o]) (h2:τ q= .arr 4 (bV o l))=>bET o l hl hpos (σ:=τ) (nx:=nx+1) (h:=h) (q:=q) (by omega) h1 (by omega) h2
 generalize mU o l=R at *;generalize l.getD 0 aK.zero=e at *;refine aD ?_;simp [go_sem];refine aL rfl rfl rfl (args:=[.ptr h 0]) (f:=86) (by simp [go_sem]) (by simp [go_sem,hB]) (hp _ (by simp [aB,hne,hσ]) (by simp [aB,hne2,hσq])) ?_;have e5:rU (aB σ nx (.box [.i 0,.i 0,.i 0])) (nx+1) h q o R nx= .box [.i 0,.i 0,.i 0]:=by rw [rU,if_neg e3,if_neg (by omega),if_pos ⟨by omega,e4⟩,aB,if_pos rfl]
 have hst:∀i,rU (aB σ nx (.box [.i 0,.i 0,.i 0])) (nx+1) h q o R i=if i=h then .box [.ref (nx+1+4),.i o] else if i=nx+1+4 then .arr 4 (bV o R) else if i<nx+1∧i≠q then aB σ nx (.box [.i 0,.i 0,.i 0]) i else .dead:=fun i=>rfl
 generalize rU (aB σ nx (.box [.i 0,.i 0,.i 0])) (nx+1) h q o R=τ at *;have e6:¬nx=nx+1+5:=by omega
 refine aD ?_;simp [go_sem,aK.a,aK.cs,sQ,e5,e6];refine ⟨by omega,nx+1+4,by omega,by omega,?_,?_,fun i h1 h2 h3=>?_⟩
 ·simp [aB,show ¬h=nx by omega,show ¬h=nx+1+5 by omega,hst h]
 ·simp [aB,show ¬nx+1+4=nx by omega,hst (nx+1+4),e1]
 ·simp [aB,show ¬i=nx by omega,show ¬i=nx+1+5 by omega,hst i,h2,h3,show ¬i=nx+1+4 by omega,show i<nx+1 by omega]
theorem aVV (o:Int) (l:List aK) (hl:l.length<2^30) {σ:Nat→aG} {nx h q:Nat} (hh:h<nx) (hσ:σ h= .box [.ref q,.i o]) (hq:q<nx) (hσq:σ q= .arr 4 (bV o l)):
  aT P 50 [.ptr h 0] σ nx (.i (jU l)) σ nx:=by
 generalize hR:jU l=R;refine iM Tryz.func50 rfl rfl (by simp [Tryz.f50]) (by simp [aE]) fun hk B hB hnx hσB=>?_
 simp only [Tryz.f50] at hB ⊢;have hil:=lN o l;have hlen:=aW4 o l hh hσ hq hσq;refine aD ?_;simp [go_sem];refine aL rfl rfl rfl (args:=[.ptr h 0]) (f:=87) (by simp [go_sem]) (by simp [go_sem,hB]) hlen ?_;by_cases c0:l.length=0
 ·have:l=[]:=List.eq_nil_of_length_eq_zero c0;subst this;have:R=1152921504606846976:=hR.symm;refine aD ?_;simp [go_sem,this]
 ·have hpos:0<l.length:=by omega
  have hg0:=fun h=>lM o l (k:=0) hpos h
  have hR0:l.foldl (fun n f=>min n f.bound) (l.getD 0 aK.zero).bound=R:=by
   cases l with
   |nil=>simp at hpos
   |cons e l=>rw [←hR];simp [jU]
  have w1:∀k:Nat,k<l.length→IntKind.i64.wrap ((k:Int)+1)=((k+1:Nat):Int):=fun k hk=>by rw [aO _ (by omega)];omega
  generalize l.getD 0 aK.zero=e0 at *;refine aD ?_;simp [go_sem,c0,hσ,hσq,hil,hpos,hg0,aK.t];refine bA (α:=Nat×Int×(Nat→aG)×Nat) (fun (k,n,τ,m)=>k≤l.length∧(l.drop k).foldl (fun n f=>min n f.bound) n=R∧nx≤m∧∀i,i<nx→τ i=σ i) (fun (k,n,τ,m)=>⟨sl [(3,.i n),(22,.ref q),(23,.i l.length),(24,.i k)],τ,m⟩) (fun a=>l.length-a.1) (0,e0.bound,_,_) ⟨Nat.zero_le _,hR0,Nat.le_refl _,fun i _=>rfl⟩ (aH.slots (by simp [go_sem]) rfl rfl) ?_;rintro ⟨k,n,τ,m⟩ ⟨g1,g2,g3,g4⟩;have hτ:=g4 q hq;rw [hσq] at hτ;have hqm:¬q=m:=by omega
  refine aI ?_;simp [go_sem];refine bU (fun hk=>?_) (fun hk=>?_)
  ·have hgk:=fun h=>lM o l (k:=k) hk h
   rw [List.drop_eq_getElem_cons hk,List.foldl_cons] at g2;have hgd:l.getD k aK.zero=l[k]:=nJ hk;rw [hgd] at hgk;have w1:=w1 k hk;generalize l[k]=e at *;simp [go_sem,hτ,hil,hk,hgk,aK.t,w1];exact Next.mk (k+1,min n e.bound,_,_) ⟨by omega,g2,by simp only;omega,fun i hi=>by simp [aB,show ¬i=m by omega,g4 i hi]⟩ (aH.slots (by simp [go_sem]) rfl rfl) (by simp only;omega)
  ·have:k=l.length:=by omega
   subst this;rw [List.drop_length,List.foldl_nil] at g2;subst g2;simp [go_sem];exact ⟨by omega,g4⟩
theorem aX8 (x:aA) (s:aF):(x.moves s).length≤x.stops.length:=by rw [rE];exact sD _ _
theorem aYR (x:aA) (n:aC) (up:Int):(x.next [n] up).length≤x.stops.length:=by
 have h1:=aMC ([n].flatMap (x.kids up));have h2:([n].flatMap (x.kids up)).length≤(x.moves n.s).length:=by rw [List.flatMap_cons,List.flatMap_nil,List.append_nil,aA.kids];refine Nat.le_trans (List.length_filter_le _ _) ?_;rw [List.length_map];exact Nat.le_refl _
 have h3:=aX8 x n.s;rw [aA.next];omega
theorem aBF {x:aA} (w up dp:Int):∀(f:Nat) (ls:List (List aC)) (low:Int) (sq:Option Nat) (l:List aC),1≤ls.length→(∀k,sq=some k→2≤k)→(x.buildGo w up dp f ls low sq l).exact=true∨2≤(x.buildGo w up dp f ls low sq l).sure
 |0,ls,low,sq,l,_,h=>by
  cases sq with
  |none=>exact .inl rfl
  |some k=>exact .inr (h k rfl)
 |f+1,ls,low,sq,l,hl,h=>by
  have hlen:(ls++[l]).length=ls.length+1:=by simp
  rw [aA.buildGo];split
  ·cases sq with
   |none=>exact .inl rfl
   |some k=>exact .inr (h k rfl)
  split
  ·cases sq with
   |none=>exact .inl rfl
   |some k=>exact .inr (h k rfl)
  split
  ·refine aBF w up dp f _ _ _ _ (by omega) fun k hk=>?_
   cases sq with
   |none=>simp only [Option.getD_none,Option.some.injEq] at hk;omega
   |some i=>have:=h i rfl;simp only [Option.getD_some,Option.some.injEq] at hk;omega
  ·exact aBF w up dp f _ _ _ _ (by omega) h
theorem aG7 (x:aA) (n:aC) (w up:Int) (he:(x.build n w up).exact=false):2≤(x.build n w up).sure:=by
 have key:(x.build n w up).exact=true∨2≤(x.build n w up).sure:=by
  rw [aA.build,aA.buildGo,if_neg (by simp)];split
  ·exact .inl rfl
  have h1:=aYR x n up;rw [if_neg (by unfold aA.mostN;omega)];exact aBF w up _ _ _ _ _ _ (by simp) fun k hk=>by cases hk
 rcases key with h | h
 ·rw [he] at h;cases h
 ·exact h
theorem oE {α:Type} {l:List α} {i:Nat} {a d:α} (h:l[i]? =some a):l.getD i d=a:=by rw [List.getD_eq_getElem?_getD,h];rfl
theorem aM4 {x:aA} {low:Int} {s:SS} {n:aC} (hn:∀e∈s.q,∃m,s.subs[e.no]? =some m):∀e∈(x.push low s n).q,∃m,(x.push low s n).subs[e.no]? =some m:=by
 rcases lZ x low s n with ⟨e,_⟩ | ⟨_,e⟩
 ·rw [e];exact hn
 rw [e];intro f hf;rcases List.mem_append.1 hf with hf | hf
 ·obtain ⟨m,hm⟩:=hn f hf;exact ⟨m,pI hm⟩
 ·rw [List.mem_singleton.1 hf];exact ⟨n,by simp⟩
theorem aJN {x:aA} {p:Nat} (hx:x.Fit p):∀{v:List Int} {s:aF} {c:Int} {t:aF} {d:Int},kA x p s→x.goes v s c=some (t,d)→kA x p t
 |[],s,c,t,d,hg,h=>by rw [aA.goes] at h;cases h;exact hg
 |j :: v,s,c,t,d,hg,h=>by
  rw [aA.goes] at h;split at h
  ·rename_i hm;exact aJN hx (pJ hx hg hm).1 h
  ·cases h
theorem bY.good {x:aA} {p:Nat} (hx:x.Fit p) (hm:x.may=true) {n:aC} (h:bY x n):kA x p n.s:=aJN hx (aCH hx hm) h.goes
theorem bY.len13 {x:aA} {p:Nat} (hx:x.Fit p) (hm:x.may=true) (hp:p≤3) {n:aC} (h:bY x n):n.path.length≤13:=by have:=h.len;have:=aX1 hx hm;omega
theorem aM0 {x:aA} {p:Nat} (hx:x.Fit p) (hm:x.may=true) (hp:p≤3) {n:aC} (h:bY x n) (up:Int) (D:Nat):∀k,k≤D→cR p (D-k) (x.layN up n k)≤lW p D n.s
 |0,_=>by simp only [aA.layN,cR];exact Nat.le_refl _
 |k+1,hk=>by
  have h1:=aM0 hx hm hp h up D k (by omega);have h2:=aMX p (D-(k+1)) ((x.layN up n k).flatMap (x.kids up)) [];have h3:=aMZ hx hp (D-(k+1)) up (x.layN up n k) fun m hmm=>(lO h up k m hmm).1.good hx hm
  rw [show D-(k+1)+1=D-k by omega] at h3;simp only [cR] at h2;rw [aA.layN,aA.next,oL];omega
def wt (p:Nat) (n:aC):Nat:=lW p (13-n.path.length) n.s*(14-n.path.length)
def SS.mass (p:Nat) (s:SS):Nat:=(s.q.map fun e=>wt p (s.subs.getD e.no aC.zero)).sum
theorem aPX (p K:Nat):∀(l:List aC),(∀n∈l,n.path.length=K)→(l.map (wt p)).sum=cR p (13-K) l*(14-K)
 |[],_=>by simp [cR]
 |n :: l,h=>by rw [List.map_cons,List.sum_cons,aPX p K l fun m hm=>h m (List.mem_cons_of_mem _ hm),cR,wt,h n List.mem_cons_self,Nat.add_mul]
structure aFZ (p:Nat) (s t:SS) (l:List aC):Prop where
 subs:t.subs.length≤s.subs.length+l.length
 mass:t.mass p≤s.mass p+(l.map (wt p)).sum
 nos:∀e∈t.q,∃m,t.subs[e.no]? =some m
theorem aJQ {x:aA} (p:Nat) (low:Int) {s:SS} (n:aC) (hn:∀e∈s.q,∃m,s.subs[e.no]? =some m):aFZ p s (x.push low s n) [n]:=by
 refine ⟨?_,?_,aM4 hn⟩
 ·rcases lZ x low s n with ⟨e,_⟩ | ⟨_,e⟩<;>rw [e]<;>simp
 rcases lZ x low s n with ⟨e,_⟩ | ⟨_,e⟩
 ·rw [e];omega
 rw [e,SS.mass,SS.mass];simp only;rw [List.map_append,List.sum_append]
 have h1:(s.q.map fun e=>wt p ((s.subs++[n]).getD e.no aC.zero))=s.q.map fun e=>wt p (s.subs.getD e.no aC.zero):=by
  refine List.map_congr_left fun e he=>?_
  obtain ⟨m,hm⟩:=hn e he;rw [oE hm,oE (pI hm)]
 have h2:(s.subs++[n])[s.subs.length]? =some n:=by simp
 rw [h1,List.map_cons,List.map_nil,List.sum_cons,List.sum_nil,oE h2,List.map_cons,List.map_nil,List.sum_cons,List.sum_nil];omega
theorem aJR {x:aA} (p:Nat) (low:Int):∀(l:List aC) (s:SS),(∀e∈s.q,∃m,s.subs[e.no]? =some m)→aFZ p s (l.foldl (x.push low) s) l
 |[],s,hn=>⟨by simp,by simp,hn⟩
 |n :: l,s,hn=>by
  obtain ⟨h1,h2,h3⟩:=aJQ (x:=x) p low n hn;obtain ⟨k1,k2,k3⟩:=aJR (x:=x) p low l (x.push low s n) h3;refine ⟨?_,?_,k3⟩
  ·simp only [List.length_cons,List.length_nil,List.foldl_cons] at *;omega
  ·simp only [List.map_cons,List.map_nil,List.sum_cons,List.sum_nil,List.foldl_cons] at *;omega
theorem vF {p:Nat} {s t:SS} (h1:t.subs=s.subs) (h2:t.q=s.q):t.mass p=s.mass p:=by rw [SS.mass,SS.mass,h1,h2]
theorem aFT {x:aA} {p:Nat} (hx:x.Fit p) (hm:x.may=true) (hp:p≤3) {n:aC} (h:bY x n):1≤wt p n:=by have h1:=h.len13 hx hm hp;have h2:=aD7 p (13-n.path.length) (gJ n.s) n.s.yard;rw [wt];exact Nat.mul_pos h2 (by omega)
theorem aB5 (x:aA) (most:Int) (h0:0≤most) (hm:most≤3000):∀(d:Nat) (st:aC×Bool×Int) (l:List aC) (n:Int),0≤n→n+3000*d<9223372036854775808→
  n≤(x.exGo most d st l n).2.2.2∧(x.exGo most d st l n).2.2.2≤n+3000*d
 |0,st,l,n,_,_=>by rw [aA.exGo];exact ⟨Int.le_refl _,by simp⟩
 |d+1,st,l,n,h1,hn=>by
  rw [aA.exGo];split
  ·exact ⟨Int.le_refl _,by simp only;omega⟩
  split
  ·exact ⟨Int.le_refl _,by simp only;omega⟩
  rename_i c1 c2;have hw:=aO (n+l.length) (by omega);have:=aB5 x most h0 hm d (x.look st l) (gG (x.next l st.2.2)) (IntKind.i64.wrap (n+l.length)) (by omega) (by omega);omega
theorem aEW (K:Nat):∀(ls:List (List aC)),(∀l∈ls,l.length≤K)→eG ls≤K*ls.length
 |[],_=>by simp [eG]
 |l :: ls,h=>by
  have h1:=aEW K ls fun m hm=>h m (List.mem_cons_of_mem _ hm)
  have h2:=h l List.mem_cons_self;rw [eG] at h1 ⊢;rw [List.map_cons,List.sum_cons,List.length_cons,Nat.mul_add];omega
theorem aG5 (x:aA) (n:aC) (w up:Int):∃ls,(x.build n w up).layers=[n] :: ls:=by
 obtain ⟨h,e⟩:=qE (mI x n w up) (i:=0) (by have:=(mI x n w up).pos;omega);cases hl:(x.build n w up).layers with
 |nil=>rw [hl] at h;simp at h
 |cons a ls=>refine ⟨ls,?_⟩;have:(x.build n w up).layers[0]=[n]:=e;simp only [hl,List.getElem_cons_zero] at this;rw [this]
structure aFW (x:aA) (p:Nat) (n:aC) (s t:SS):Prop where
 subs:t.subs.length+t.mass p≤s.subs.length+s.mass p+wt p n
 mass:t.mass p+1≤s.mass p+wt p n
 log:t.log.length=s.log.length+1
 least:s.steps+2≤t.steps
 most:t.steps≤s.steps+400000
theorem aXF {x:aA} {p:Nat} (hx:x.Fit p) (hm:x.may=true) (hp:p≤3) {n:aC} (ht:bY x n) {w:Int} (hw:w≤40) {s:SS} (hs:∀e∈s.q,∃m,s.subs[e.no]? =some m):aFW x p n s (x.lookS w s n):=by
 have hwp:=aFT hx hm hp ht;obtain ⟨n1,n2⟩:=aLR x n w s.up (by omega);have hml:=lQ x n.s;have hml0:=lQ x x.rootS;have hmu:iA w*x.meas n.s≤3000*40:=Nat.mul_le_mul (by unfold iA;split<;>omega) hml;have hmst:x.mostN w≤40:=by have:=hx.len;unfold aA.mostN;omega
 have h1:1≤x.mostN w:=by have:=hx.len;unfold aA.mostN;omega
 rw [aA.lookS];have hn1:=hO (s.plus (x.narrow n w s.up).2.2) ((x.narrow n w s.up).1,(x.narrow n w s.up).2.1);have q1:(s.nar x w n).subs=s.subs:=hn1.2.1;have q2:(s.nar x w n).q=s.q:=hn1.2.2.1;have q3:(s.nar x w n).log=s.log:=hn1.2.2.2.1;have q4:(s.nar x w n).steps=s.steps+(x.narrow n w s.up).2.2:=hn1.2.2.2.2;generalize s.nar x w n=t at *
 have hsz:1≤eG (x.build n w t.up).layers∧eG (x.build n w t.up).layers≤40*41:=by
  obtain ⟨ls,hls⟩:=aG5 x n w t.up;have hlay:=aG6 n w t.up h1;have hc:=uL x n w t.up;have hd:=(qY hm).2;rw [hls] at hlay hc ⊢;rw [List.length_cons] at hc;have h3:=aEW 40 ls fun l hl=>by have:=(hlay l hl).2;omega
  have h4:eG ([n] :: ls)=1+eG ls:=by simp [eG]
  rw [h4];have:40*ls.length≤40*40:=Nat.mul_le_mul_left _ (by omega);omega
 have hdt:∀d,(t.dia n d).subs=s.subs∧(t.dia n d).q=s.q∧(t.dia n d).log.length=s.log.length+1∧(t.dia n d).steps=t.steps+eG d.layers:=fun d=>⟨q1,q2,by show (t.log++_).length=_;rw [q3,List.length_append];rfl,rfl⟩
 have e0:=hdt (x.build n w t.up);rw [aA.lookD];split
 ·exact ⟨by rw [vF e0.1 e0.2.1,e0.1];omega,by rw [vF e0.1 e0.2.1];omega,e0.2.2.1,by rw [e0.2.2.2];omega,by rw [e0.2.2.2];omega⟩
 split
 ·have h3:=hO ((t.dia n (x.build n w t.up)).plus (x.exact n (t.dia n (x.build n w t.up)).up (x.mostN w)).2.2.2) ((x.exact n (t.dia n (x.build n w t.up)).up (x.mostN w)).1,(x.exact n (t.dia n (x.build n w t.up)).up (x.mostN w)).2.1);have hcnt:0≤(x.exact n (t.dia n (x.build n w t.up)).up (x.mostN w)).2.2.2∧(x.exact n (t.dia n (x.build n w t.up)).up (x.mostN w)).2.2.2≤0+3000*((x.meas n.s+1:Nat):Int):=aB5 x _ (by omega) (by omega) _ _ _ _ (Int.le_refl _) (by omega);have f1:=h3.2.1.trans e0.1;have f2:=h3.2.2.1.trans e0.2.1;have f3:((t.dia n (x.build n w t.up)).exa x w n).log=(t.dia n (x.build n w t.up)).log:=h3.2.2.2.1;have f4:((t.dia n (x.build n w t.up)).exa x w n).steps=(t.dia n (x.build n w t.up)).steps+(x.exact n (t.dia n (x.build n w t.up)).up (x.mostN w)).2.2.2:=h3.2.2.2.2;refine ⟨by rw [SS.exa,vF f1 f2,f1];omega,by rw [SS.exa,vF f1 f2];omega,by rw [f3];exact e0.2.2.1,by rw [f4,e0.2.2.2];omega,by rw [f4,e0.2.2.2];omega⟩
 ·rename_i c1 c2;have htwo:=aG7 x n w t.up (by simpa using c2);have hok:=mI x n w t.up;rw [aA.branch];obtain ⟨hl,hlast⟩:=qE hok (i:=(x.build n w t.up).sure-1) (by omega);rw [List.getD_eq_getElem?_getD,List.getElem?_eq_getElem hl,Option.getD_some];have hpath:∀m∈(x.build n w t.up).layers[(x.build n w t.up).sure-1],bY x m∧m.path.length=n.path.length+((x.build n w t.up).sure-1):=by rw [hlast];exact fun m hmm=>lO ht t.up _ m hmm
  have ho:=oJ x ((x.build n w t.up).layers.take ((x.build n w t.up).sure-1)) (t.dia n (x.build n w t.up));generalize hS:x.offers (t.dia n (x.build n w t.up)) ((x.build n w t.up).layers.take ((x.build n w t.up).sure-1))=S at *;have g1:=ho.2.1.trans e0.1;have g2:=ho.2.2.1.trans e0.2.1;obtain ⟨k1,k2,k3⟩:=aJR (x:=x) p (x.build n w t.up).low ((x.build n w t.up).layers[(x.build n w t.up).sure-1]) S (by rw [g1,g2];exact hs);have hup:=rL x (x.build n w t.up).low ((x.build n w t.up).layers[(x.build n w t.up).sure-1]) S;have hlen:=ht.len13 hx hm hp;rw [vF g1 g2,aPX p _ _ fun m hmm=>(hpath m hmm).2] at k2;rw [g1] at k1
  have key:cR p (13-(n.path.length+((x.build n w t.up).sure-1))) ((x.build n w t.up).layers[(x.build n w t.up).sure-1])*(14-(n.path.length+((x.build n w t.up).sure-1)))+((x.build n w t.up).layers[(x.build n w t.up).sure-1]).length≤wt p n∧
    cR p (13-(n.path.length+((x.build n w t.up).sure-1))) ((x.build n w t.up).layers[(x.build n w t.up).sure-1])*(14-(n.path.length+((x.build n w t.up).sure-1)))+1≤wt p n:=by
   by_cases hD:(x.build n w t.up).sure-1≤13-n.path.length
   ·have hpl:=aM0 hx hm hp ht t.up (13-n.path.length) _ hD;rw [←hlast,Nat.sub_sub] at hpl;have hll:=aMW p (13-(n.path.length+((x.build n w t.up).sure-1))) ((x.build n w t.up).layers[(x.build n w t.up).sure-1]);generalize cR p (13-(n.path.length+((x.build n w t.up).sure-1))) ((x.build n w t.up).layers[(x.build n w t.up).sure-1])=A at *;have hpos:=aD7 p (13-n.path.length) (gJ n.s) n.s.yard;rw [←lW] at hpos;rw [wt];generalize lW p (13-n.path.length) n.s=G at *;have m1:A*(14-(n.path.length+((x.build n w t.up).sure-1)))≤G*(13-n.path.length):=Nat.mul_le_mul hpl (by omega);have m2:G*(14-n.path.length)=G*(13-n.path.length)+G:=by rw [show 14-n.path.length=(13-n.path.length)+1 by omega,Nat.mul_add,Nat.mul_one]
    omega
   ·have:(x.build n w t.up).layers[(x.build n w t.up).sure-1]=[]:=by
     refine List.eq_nil_iff_forall_not_mem.2 fun m hmm=>?_
     obtain ⟨a,b⟩:=hpath m hmm;have:=a.len13 hx hm hp;omega
    rw [this];simp only [cR,List.length_nil];omega
  generalize cR p (13-(n.path.length+((x.build n w t.up).sure-1))) ((x.build n w t.up).layers[(x.build n w t.up).sure-1])*(14-(n.path.length+((x.build n w t.up).sure-1)))=A at *;refine ⟨by omega,by omega,by rw [hup.2.1,ho.2.2.2.1];exact e0.2.2.1,by rw [hup.2.2,ho.2.2.2.2,e0.2.2.2];omega,by rw [hup.2.2,ho.2.2.2.2,e0.2.2.2];omega⟩
theorem bEK {q q':List aK} {k:Nat} (hk:k<q.length) (h:q'=q.take k++q.drop (k+1)) (g:aK→Nat):(q.map g).sum=g q[k]+(q'.map g).sum:=by
 have hd:q=q.take k++q[k] :: q.drop (k+1):=by rw [←List.drop_eq_getElem_cons hk,List.take_append_drop]
 rw [h,List.map_append,List.sum_append]
 conv=>lhs;rw [hd]
 rw [List.map_append,List.sum_append,List.map_cons,List.sum_cons];omega
theorem bEV {o:Int} {q:List aK} {e:aK} {q':List aK} (h:gB o q=some (e,q')) (g:aK→Nat):(q.map g).sum=g e+(q'.map g).sum:=by
 unfold gB at h;split at h
 ·cases h
 rename_i hq;have hk:=yX o hq;obtain ⟨h1,h2⟩:=Prod.mk.inj (Option.some.inj h);rw [bEK hk h2.symm g,←h1];congr 2;rw [List.getD_eq_getElem?_getD,List.getElem?_eq_getElem hk];rfl
structure uE (x:aA) (p:Nat) (s:SS):Prop where
 subs:s.subs.length+s.mass p≤1849
 log:s.log.length+s.mass p≤1848
 steps:2*(s.log.length:Int)≤s.steps∧s.steps≤400000*s.log.length
theorem uE.left {x:aA} {p:Nat} {s:SS} (h:uE x p s) {o:Int} {e:aK} {q:List aK} (ht:gB o s.q=some (e,q)):uE x p (s.left q)∧(s.left q).mass p+wt p (s.subs.getD e.no aC.zero)=s.mass p:=by
 have hsum:=bEV ht fun e=>wt p (s.subs.getD e.no aC.zero)
 have hmass:s.mass p=wt p (s.subs.getD e.no aC.zero)+(s.left q).mass p:=hsum;refine ⟨⟨?_,?_,h.steps⟩,by omega⟩
 ·have:=h.subs;show s.subs.length+_≤_;omega
 ·have:=h.log;show s.log.length+_≤_;omega
structure kS (x:aA) (p:Nat) (s:SS):Prop where
 inv:eI x s
 cov:s.Covers x fun _=>False
 small:uE x p s
theorem kS.skip {x:aA} {p:Nat} {s:SS} (h:kS x p s) {o:Int} {e:aK} {q:List aK} (ht:gB o s.q=some (e,q)) (c:s.up≤e.bound):kS x p (s.left q):=by
 obtain ⟨t1,t2,t3,t4⟩:=qG ht;obtain ⟨n,hn⟩:=h.inv.nos e t1;have hcl:=Covers.left h.inv h.cov t2 hn;have hb:=h.inv.bound e t1 n hn;refine ⟨h.inv.left t3,fun v c hv hlt=>?_,(h.small.left ht).1⟩;rcases hcl v c hv hlt with ⟨v',d',hv',hd'⟩ | hq
 ·have hlt':c<s.up:=hlt;have:=hb v' d' hv' (by omega);omega
 ·exact .inr hq
theorem kS.look {x:aA} {p:Nat} (hx:x.Fit p) (hm:x.may=true) (hp:p≤3) {s:SS} (h:kS x p s) {w:Int} (hw:w≤40) {o:Int} {e:aK} {q:List aK} (htk:gB o s.q=some (e,q)):
  ∃n,s.subs[e.no]? =some n∧s.subs.getD e.no aC.zero=n∧bY x n∧kS x p (x.lookS w (s.left q) n)∧aFW x p n (s.left q) (x.lookS w (s.left q) n)∧(x.lookS w (s.left q) n).mass p<s.mass p:=by
 have hst:x.stops.length<2^31:=by have:=hx.len;omega
 obtain ⟨t1,t2,t3,t4⟩:=qG htk;obtain ⟨n,hn⟩:=h.inv.nos e t1;have ht:=h.inv.track n (List.mem_of_getElem? hn);have hsl:=h.inv.left t3;obtain ⟨k1,k2⟩:=aK5 hst hm ht w hsl (Covers.left h.inv h.cov t2 hn);obtain ⟨h1,h2⟩:=h.small.left htk;rw [oE hn] at h2;have hc:=aXF hx hm hp ht hw (s:=s.left q) hsl.nos;obtain ⟨c1,c2,c3,c4,c5⟩:=hc;have:=h.small.subs;have:=h.small.log;have:=h.small.steps;have e1:(s.left q).subs.length=s.subs.length:=rfl;have e2:(s.left q).log.length=s.log.length:=rfl;have e3:(s.left q).steps=s.steps:=rfl;exact ⟨n,hn,oE hn,ht,⟨k1,k2,⟨by omega,by omega,by omega,by omega⟩⟩,⟨c1,c2,c3,c4,c5⟩,by omega⟩
theorem aEL {x:aA} {p:Nat} (hx:x.Fit p) (hm:x.may=true) (hp:p≤3) (o:aV) (hw:o.width≤40):∀(N:Nat) (s:SS),kS x p s→s.mass p<N→∃r,x.runGo o N s=some r
 |0,s,_,h=>absurd h (Nat.not_lt_zero _)
 |N+1,s,hs,h=>by
  rw [aA.runGo];cases ht:gB o.order s.q with
  |none=>exact ⟨_,rfl⟩
  |some r=>
   obtain ⟨e,q⟩:=r;simp only;obtain ⟨n,hn,hg,htn,k1,k2,k3⟩:=hs.look hx hm hp hw ht;have hpos:=aFT hx hm hp htn;obtain ⟨m1,m2⟩:=hs.small.left ht;rw [hg] at m2 ⊢;by_cases c1:s.up≤e.bound
   ·rw [if_pos c1];exact aEL hx hm hp o hw N _ (hs.skip ht c1) (by omega)
   rw [if_neg c1];by_cases c2:o.budget≤s.steps
   ·rw [if_pos c2];exact ⟨_,rfl⟩
   rw [if_neg c2];exact aEL hx hm hp o hw N _ k1 (by omega)
theorem aXE (x:aA) (w:Int) (s:SS) (n:aC) (d:aX):(x.lookD w s n d).up≤s.up:=by
 have e0:(s.dia n d).up=s.up:=rfl;unfold aA.lookD;split
 ·rw [e0];exact Int.le_refl _
 split
 ·exact (hO _ _).1
 ·rw [aA.branch,(rL x d.low _ _).1];have:=(oJ x (d.layers.take (d.sure-1)) (s.dia n d)).1;omega
theorem aXJ (x:aA) (w:Int) (s:SS) (n:aC):(x.lookS w s n).up≤s.up:=by have h1:=aXE x w (s.nar x w n) n (x.build n w (s.nar x w n).up);have h2:(s.nar x w n).up≤s.up:=(hO _ _).1;rw [aA.lookS];omega
theorem bD7 {x:aA} {p:Nat} (hx:x.Fit p) (hm:x.may=true) (hp:p≤3):uE x p x.start:=by
 obtain ⟨h1,h2,h3⟩:=aJQ (x:=x) p 0 (s:=⟨[],[],bF,[],0,[]⟩) x.rootN fun e he=>by simp at he
 have hup:=p9 x 0 ⟨[],[],bF,[],0,[]⟩ x.rootN;have hpot:=bAJ p (by omega) 13 (by omega);have e3:gJ x.rootS=0:=by rw [aA.rootS,if_pos hm];simp [gJ,aF.zero]
 have e4:x.rootS.yard=true:=by rw [aA.rootS,if_pos hm];simp [aF.yard,aF.zero]
 have hw:wt p x.rootN≤132*14:=by show tI p 13 (gJ x.rootS) x.rootS.yard*14≤_;rw [e3,e4];exact Nat.mul_le_mul_right _ hpot
 have e5:(SS.mk [] [] bF [] 0 []).mass p=0:=rfl;rw [aA.start];simp only [List.map_cons,List.map_nil,List.sum_cons,List.sum_nil,List.length_cons,List.length_nil] at h1 h2;refine ⟨by omega,?_,?_⟩
 ·rw [hup.2.1];simp only [List.length_nil];omega
 ·rw [hup.2.1,hup.2.2];simp
theorem z6 {x:aA} {p:Nat} (hx:x.Fit p) (hm:x.may=true) (hp:p≤3):kS x p x.start:=by obtain ⟨h1,h2⟩:=bD6 (x:=x) (by have:=hx.len;omega) hm;exact ⟨h1,h2,bD7 hx hm hp⟩
def hC (h:aF×Nat×Bool):List AV:=[.i h.1.spot,.i h.1.car,.i h.1.time,.i h.1.load,.i h.1.first,.u h.1.must,.u h.1.can,.u h.1.on,.i h.2.1,.b h.2.2]
def iD (h:aF×Nat×Bool) (t:aF):aF×Nat×Bool:=if h.2.1=0 then (t,1,h.2.2) else (h.1.join t,h.2.1+1,h.2.2||decide (t.spot≠h.1.spot))
theorem aKC {s t:aF} (h:s.ok) (k:t.ok):(s.join t).ok:=⟨Nat.and_lt_two_pow _ k.must,Nat.or_lt_two_pow h.can k.can,Nat.and_lt_two_pow _ k.on⟩
theorem aQ2 {h:aF×Nat×Bool} {t:aF} (h1:h.1.ok) (h2:t.ok):(iD h t).1.ok:=by
 unfold iD;split
 ·exact h2
 ·exact aKC h1 h2
theorem aQ1 (h:aF×Nat×Bool) (t:aF):(iD h t).2.1=h.2.1+1:=by unfold iD;split<;>simp_all
theorem aQ4 (h:aF×Nat×Bool) (t:aF) (hk:h.2.1<2^62) (ho:h.1.ok) (htk:t.ok) {σ:Nat→aG} {nx b:Nat} (hb:b<nx) (hσ:σ b= .box (hC h)):
  aT P 287 [.ptr b 0,t.a] σ nx (.tup []) (aB σ b (.box (hC (iD h t)))) nx:=by
 refine fO Tryz.func287 rfl rfl (by simp [Tryz.f287]) hb (by simp [dG,aE,aE.bndL,hC]) (by simp [aE,aE.bndL]) fun hkn B hB hnx hσB=>?_
 simp only [Tryz.f287] at hB ⊢;have hne:¬b=nx:=by omega
 have hne2:¬nx=b:=by omega
 obtain ⟨s,k,o⟩:=h;simp only at hk ho;by_cases c0:k=0
 ·subst c0;have e:iD (s,0,o) t=(t,1,o):=rfl;have w1:IntKind.i64.wrap 1=1:=aO _ (by omega);rw [e];refine aD ?_;simp [go_sem,aF.a,aF.cs,hσ,hC,hne,hne2,w1];exact fun i h1 h2=>by simp [h2,show ¬i=nx by omega]
 ·have e:iD (s,k,o) t=(s.join t,k+1,o||decide (t.spot≠s.spot)):=if_neg c0;have hw:IntKind.i64.wrap ((k:Int)+1)=(k:Int)+1:=aO _ (by omega);have c1:¬(k:Int)+1=1:=by omega
  rw [e];refine aD ?_;simp [go_sem,aF.a,aF.cs,hσ,hC,hne,hne2,hw,c1];have hm1:=xK ho.must htk.must;have hm2:=xK ho.on htk.on;have hm3:=aA7 ho.can htk.can;refine aF2 (α:=Unit) (fun _=>True) (fun _=>⟨sl [(0,.ptr b 0),(3,.ptr nx 0),(4,.ptr b 0)],aB (aB σ nx (.box t.cs)) b (.box (hC (s,k+1,o||decide (t.spot≠s.spot)))),nx+1⟩) ?_ fun _ _=>?_
  ·refine gQ [16] rfl (by rw [hB];kernel_rfl) (by kernel_rfl) fun ht=>?_
   cases o with
   |true=>
    refine aD ?_;simp [go_sem,ht,hσ,hC,hne,hne2,hw,c1];refine aH.slots (by simp [go_sem]) ?_ rfl;funext i;by_cases e1:i=b
    ·simp [aB,e1,hC]
    ·simp [aB,e1,aF.cs]
   |false=>
    refine aD ?_;simp [go_sem,ht,hσ,hC,hne,hne2,hw,c1];refine aH.slots (by simp [go_sem]) ?_ rfl;funext i;by_cases e1:i=b
    ·simp [aB,e1,hC]
    ·simp [aB,e1,aF.cs]
  refine aD ?_;simp [go_sem];refine cT [18,21] [1,13,14,15] rfl (by rw [hB];kernel_rfl) (by kernel_rfl) fun ht hf'=>?_
  refine aD ?_;simp [go_sem,ht,hf',hC,hne,hne2,aF.cs];refine cT [18,21] [1,13,14,15] rfl (by rw [hB];kernel_rfl) (by kernel_rfl) fun ht hf'=>?_
  refine aD ?_;simp [go_sem,ht,hf',hC,hne,hne2,aF.cs];refine cT [18,21] [1,13,14,15] rfl (by rw [hB];kernel_rfl) (by kernel_rfl) fun ht hf'=>?_
  refine aD ?_;simp [go_sem,ht,hf',hC,hne,hne2,aF.cs,hm1,hm2];refine gQ [9] rfl (by rw [hB];kernel_rfl) (by kernel_rfl) fun ht=>?_
  refine aD ?_;simp [go_sem,ht,hC,hne,hne2,aF.cs,hm3];exact ⟨⟨rfl,rfl,rfl,rfl,rfl,rfl,rfl,rfl⟩,fun i h1 h2=>by simp [h2,show ¬i=nx by omega]⟩
def aF.row (s:aF):List T:=[.i s.spot,.i s.car,.i s.time,.i s.load,.i s.first,.v (.int .u64 s.must),.v (.int .u64 s.can),.v (.int .u64 s.on)]
theorem aUG (l:List aF) (h:aF×Nat×Bool) (hl:l.length<2^31) (h0:h.2.1=0) (ho:h.1.ok) (hlo:∀t∈l,t.ok) {σ:Nat→aG} {nx b r:Nat} (hb:b<nx) (hσ:σ b= .box (hC h)) (hr:r<nx) (hrb:r≠b) (hσr:σ r= .arr 8 (l.map aF.row)):
  aT P 286 [.fn (.func 287) [.ptr b 0] [],.ref r] σ nx (.tup []) (aB σ b (.box (hC (l.foldl iD h)))) nx:=by
 refine fO Tryz.func286 rfl rfl (by simp [Tryz.f286]) hb (by simp [dG,aE,aE.bndL,hC]) (by simp [aE,aE.bndL]) fun hkn B hB hnx hσB=>?_
 simp only [Tryz.f286] at hB ⊢;have hil:(l.map aF.row).length=l.length:=List.length_map _;have hgt:∀(k:Nat) (h:k<l.length),(l.map aF.row)[k]'(by rw [hil];exact h)=l[k].row:=fun k h=>by rw [List.getElem_map]
 generalize l.map aF.row=X at *;generalize hR:l.foldl iD h=R;refine aD ?_;simp [go_sem,hσr,hil]
 refine bA (α:=Nat×(aF×Nat×Bool)×(Nat→aG)×Nat) (fun (k,h,τ,ny)=>k≤l.length∧(l.drop k).foldl iD h=R∧h.2.1=k∧h.1.ok∧τ b= .box (hC h)∧nx≤ny∧∀i,i<nx→i≠b→τ i=σ i)
  (fun (k,h,τ,ny)=>⟨sl [(0,.fn (.func 287) [.ptr b 0] []),(6,.ref r),(7,.i l.length),(8,.i k)],τ,ny⟩) (fun a=>l.length-a.1) (0,h,σ,nx) ⟨Nat.zero_le _,hR,h0,ho,hσ,Nat.le_refl _,fun i _ _=>rfl⟩ (aH.slots (by simp [go_sem]) rfl rfl) ?_
 rintro ⟨k,h,τ,ny⟩ ⟨g1,g2,g3,g4,g5,g6,g7⟩;have hτr:τ r= .arr 8 X:=(g7 r hr hrb).trans hσr;refine aI ?_;simp [go_sem];refine bU (fun hk=>?_) (fun hk=>?_)
 ·have hkk:IntKind.i64.wrap ((k:Int)+1)=((k+1:Nat):Int):=by rw [aO ((k:Int)+1) (by omega)];rfl
  have hget:∀h:k<X.length,X[k]'h=l[k].row:=fun h=>hgt k hk
  rw [List.drop_eq_getElem_cons hk,List.foldl_cons] at g2;have hto:=hlo l[k] (List.getElem_mem _);generalize l[k]=t at *;have hadd:=fun (τ':Nat→aG) (h1:τ' b= .box (hC h))=>aQ4 h t (by omega) g4 hto (σ:=τ') (nx:=ny+1) (b:=b) (by omega) h1
  have hok:=aQ2 g4 hto;have hmn:=aQ1 h t;generalize iD h t=h' at *;have m1:¬b=ny:=by omega
  have m2:¬r=ny:=by omega
  simp [go_sem,hil,hk,hget,aF.row,hτr,m2];refine aL rfl rfl rfl (args:=[.ptr b 0,t.a]) (f:=287) (by simp [go_sem,aF.a,aF.cs]) (by simp [go_sem,hB]) (hadd _ (by simp [aB,m1,g5])) ?_;refine aD ?_;simp [go_sem,hkk];refine Next.mk (k+1,h',_,ny+1) ?_ (aH.slots (by simp [go_sem]) rfl rfl) (by simp only;omega);refine ⟨by simp only;omega,g2,by simp only;omega,hok,by simp [aB],by simp only;omega,fun i h1 h2=>?_⟩;simp [aB,h2,show ¬i=ny by omega,g7 i h1 h2]
 ·have:k=l.length:=by omega
  subst this;rw [List.drop_length,List.foldl_nil] at g2;subst g2;simp [go_sem,g5];exact ⟨g6,g7⟩
theorem aI4:∀(l:List aF) (s:aF) (k:Nat) (o:Bool),l.foldl iD (s,k+1,o)=(l.foldl aF.join s,k+1+l.length,o||l.any fun t=>decide (t.spot≠s.spot))
 |[],s,k,o=>by simp
 |t :: l,s,k,o=>by have e:iD (s,k+1,o) t=(s.join t,k+1+1,o||decide (t.spot≠s.spot)):=if_neg (by simp);rw [List.foldl_cons,e,aI4 l (s.join t) (k+1),List.foldl_cons,List.any_cons,List.length_cons,←Bool.or_assoc,show k+1+1+l.length=k+1+(l.length+1) by omega];rfl
theorem aWN (l:List aF):eU l=if (l.foldl iD (aF.zero,0,false)).2.1=0∨(l.foldl iD (aF.zero,0,false)).2.2=true then (aF.zero,false) else ((l.foldl iD (aF.zero,0,false)).1,true):=by
 cases l with
 |nil=>rfl
 |cons s l=>have e:iD (aF.zero,0,false) s=(s,0+1,false):=rfl;rw [List.foldl_cons,e,aI4,eU,Bool.false_or];simp only [show ¬(0+1+l.length=0) by omega,false_or]
theorem aWP (l:List aF) (hl:l.length<2^31) (hlo:∀t∈l,t.ok) {σ:Nat→aG} {nx r:Nat} (hr:r<nx) (hσr:σ r= .arr 8 (l.map aF.row)):
  aT P 257 [.ref r] σ nx (.tup [(eU l).1.a,.b (eU l).2]) σ nx:=by
 refine iM Tryz.func257 rfl rfl (by simp [Tryz.f257]) (by simp [aE,aE.bndL,aF.a,aF.cs]) fun hk B hB hnx hσB=>?_
 simp only [Tryz.f257] at hB ⊢;have hes:=fun (τ:Nat→aG) (h1:τ (nx+1)= .box (hC (aF.zero,0,false))) (h2:τ r= .arr 8 (l.map aF.row))=>aUG l (aF.zero,0,false) hl rfl aF.zero_ok hlo (σ:=τ) (nx:=nx+2) (b:=nx+1) (r:=r) (by omega) h1 (by omega) (by omega) h2
 have hj:=aWN l;generalize eU l=J at *;generalize l.foldl iD (aF.zero,0,false)=H at *;obtain ⟨s,k,o⟩:=H;simp only at hj;have m1:¬r=nx:=by omega
 have m2:¬r=nx+1:=by omega
 have fin:∀(a b c:aG) (i:Nat),i<nx→aB (aB (aB σ nx a) (nx+1) b) (nx+1) c i=σ i:=fun a b c i h=>by simp [aB,show ¬i=nx by omega,show ¬i=nx+1 by omega]
 refine aD ?_;simp [go_sem];refine aL rfl rfl rfl (args:=[.fn (.func 287) [.ptr (nx+1) 0] [],.ref r]) (f:=286) (by simp [go_sem]) (by simp [go_sem,hB]) (hes _ (by simp [aB,hC,aF.zero]) (by simp [aB,m1,m2,hσr])) ?_;by_cases c0:k=0
 ·rw [if_pos (.inl c0)] at hj;subst hj;refine aD ?_;simp [go_sem,hC,c0];exact ⟨fun i h=>by simp [show ¬i=nx by omega,show ¬i=nx+1 by omega],rfl⟩
 cases o with
 |true=>rw [if_pos (.inr rfl)] at hj;subst hj;refine aD ?_;simp [go_sem,hC,c0];exact ⟨fun i h=>by simp [show ¬i=nx by omega,show ¬i=nx+1 by omega],rfl⟩
 |false=>rw [if_neg (by simp [c0])] at hj;subst hj;refine aD ?_;simp [go_sem,hC,c0];exact ⟨fun i h=>by simp [show ¬i=nx by omega,show ¬i=nx+1 by omega],rfl⟩
theorem aTK (l:List aC) (m:aC):iR (l++[m])=if l=[]∨m.cost<iR l then m.cost else iR l:=by
 cases l with
 |nil=>simp [iR]
 |cons n l=>rw [List.cons_append,iR,List.foldl_append,iR];simp only [List.foldl_cons,List.foldl_nil,reduceCtorEq,false_or];split<;>omega
abbrev aDI (s:aF) (c:Int) (p:AV):List AV:=[.i s.spot,.i s.car,.i s.time,.i s.load,.i s.first,.u s.must,.u s.can,.u s.on,.i c,p]
theorem bE5 (l:List aC) (hl:l.length<2^31) (hlo:∀n∈l,n.s.ok) {σ:Nat→aG} {nx r:Nat} (hr:r<nx) (hσr:σ r= .arr 10 (aM l)):
  aT P 228 [.ref r] σ nx (.tup [(kQ l).1.a,.b (kQ l).2]) σ nx:=by
 refine iM Tryz.func228 rfl rfl (by simp [Tryz.f228]) (by simp [aE,aE.bndL,aC.a,aC.cs]) fun hk B hB hnx hσB=>?_
 simp only [Tryz.f228] at hB ⊢;have hil:(aM l).length=l.length:=List.length_map _;have hgt:∀(k:Nat) (h:k<l.length),(aM l)[k]'(by rw [hil];exact h)=l[k].t:=fun k h=>jX l h
 have hmost:bH=4294967296:=rfl;generalize hX:aM l=X at *;have m1:¬r=nx:=by omega
 have m2:¬r=nx+1:=by omega
 have m3:¬r=nx+2:=by omega
 refine aD ?_;simp [go_sem,hσr,hil,m1,m2];refine jC 5 8 (by simp [go_sem]) ?_;refine jB (aH.looseB (b:=nx+1) (cs:=[.i 0,.i 0,.i 0,.i 0,.i 0,.u 0,.u 0,.u 0,.i 0,.fsl []]) (by simp [aB])) ?_
 refine bA (α:=Nat×Nat×(Nat→aG)×Nat) (fun (k,q,τ,ny)=>k≤l.length∧τ (nx+1)= .box (aDI aF.zero (iR (l.take k)) (.t (.sl [])))∧τ q= .arr 8 ((l.map fun n=>n.s.row).take k)∧nx+2≤q∧q<ny∧τ nx= .box (aDI aF.zero 0 (.fsl []))∧∀i,i<nx→τ i=σ i)
  (fun (k,q,τ,ny)=>⟨sl [(2,.ptr nx 0),(3,.b false),(4,.ptr (nx+1) 0),(5,.ref q),(9,.ref r),(10,.i l.length),(11,.i k)],τ,ny⟩) (fun a=>l.length-a.1) (0,nx+2,_,nx+3) ?_ (aH.slots (by simp [go_sem]) rfl rfl) ?_
 ·refine ⟨Nat.zero_le _,by simp [aB,cQ,aF.zero,iR],by simp [aB],by omega,by omega,by simp [aB,aF.zero,show ¬nx=nx+1+1 by omega],fun i h=>by simp [aB,show ¬i=nx by omega,show ¬i=nx+1 by omega,show ¬i=nx+2 by omega]⟩
 rintro ⟨k,q,τ,ny⟩ ⟨g1,g2,g3,g4,g5,g6,g7⟩;have hτr:τ r= .arr 10 X:=(g7 r hr).trans hσr;have n1:¬r=ny:=by omega
 have n2:¬nx+1=ny:=by omega
 have n3:¬q=ny:=by omega
 have n4:¬nx=ny:=by omega
 have n5:¬nx+1=q:=by omega
 have n6:¬ny=nx+1:=by omega
 have n7:¬q=nx+1:=by omega
 refine aI ?_;simp [go_sem];refine bU (fun hk=>?_) (fun hk=>?_)
 ·have hkk:IntKind.i64.wrap ((k:Int)+1)=((k+1:Nat):Int):=by rw [aO ((k:Int)+1) (by omega)];rfl
  have hget:∀h:k<X.length,X[k]'h=l[k].t:=fun h=>hgt k hk
  have htk:l.take (k+1)=l.take k++[l[k]]:=List.take_succ_eq_append_getElem hk;have hcs:=aTK (l.take k) l[k];rw [←htk] at hcs
  have hnil:l.take k=[]↔k=0:=by
   rw [List.take_eq_nil_iff];constructor
   ·rintro (h | h)
    ·exact h
    ·rw [h] at hk;simp at hk
   ·exact fun h=>.inl h
  simp only [hnil] at hcs;have hrow:(l.map fun n=>n.s.row).take k++[l[k].s.row]=(l.map fun n=>n.s.row).take (k+1):=by rw [List.take_succ_eq_append_getElem (by rw [List.length_map];exact hk),List.getElem_map]
  have hlen:((l.map fun n=>n.s.row).take k).length=k:=by rw [List.length_take,List.length_map];omega
  generalize (l.map fun n=>n.s.row).take k=rows at *;generalize iR (l.take k)=c at *;generalize l[k]=m at *;have hcap:k+1≤bH:=by omega
  by_cases c0:k=0
  ·rw [if_pos (.inl c0)] at hcs;have hd:decide (k=0)=true:=decide_eq_true c0;simp [go_sem,hil,hk,hget,aC.t,hτr,n1,n2,n3,n4,n5,n6,n7,g2,g3,hd,hlen,hcap,hkk];refine Next.mk (k+1,ny+1,_,ny+2) ?_ (aH.slots (by simp [go_sem]) rfl rfl) (by simp only;omega);refine ⟨by simp only;omega,by simp [aB,n4,n2,n3,n5,hcs,aF.zero],by simp only [aB,if_true];rw [←hrow];rfl,by simp only;omega,by simp only;omega,by simp [aB,n4,g6,aF.zero,show ¬nx=q by omega,show ¬nx=ny+1 by omega],fun i h=>by simp [aB,show ¬i=ny by omega,show ¬i=nx+1 by omega,show ¬i=q by omega,show ¬i=ny+1 by omega,g7 i h]⟩
  by_cases c1:m.cost<c
  ·rw [if_pos (.inr c1)] at hcs;simp [go_sem,hil,hk,hget,aC.t,hτr,n1,n2,n3,n4,n5,n6,n7,g2,g3,c0,c1,hlen,hcap,hkk];refine Next.mk (k+1,ny+1,_,ny+2) ?_ (aH.slots (by simp [go_sem]) rfl rfl) (by simp only;omega);refine ⟨by simp only;omega,by simp [aB,n4,n2,n3,n5,hcs,aF.zero],by simp only [aB,if_true];rw [←hrow];rfl,by simp only;omega,by simp only;omega,by simp [aB,n4,g6,aF.zero,show ¬nx=q by omega,show ¬nx=ny+1 by omega],fun i h=>by simp [aB,show ¬i=ny by omega,show ¬i=nx+1 by omega,show ¬i=q by omega,show ¬i=ny+1 by omega,g7 i h]⟩
  ·rw [if_neg (by rintro (h | h);exact c0 h;exact c1 h)] at hcs;simp [go_sem,hil,hk,hget,aC.t,hτr,n1,n2,n3,n4,n5,n6,n7,g2,g3,c0,c1,hlen,hcap,hkk];refine Next.mk (k+1,ny+1,_,ny+2) ?_ (aH.slots (by simp [go_sem]) rfl rfl) (by simp only;omega);refine ⟨by simp only;omega,by simp [aB,n4,n2,n3,n5,hcs,aF.zero,g2],by simp only [aB,if_true];rw [←hrow];rfl,by simp only;omega,by simp only;omega,by simp [aB,n4,g6,aF.zero,show ¬nx=q by omega,show ¬nx=ny+1 by omega],fun i h=>by simp [aB,show ¬i=ny by omega,show ¬i=nx+1 by omega,show ¬i=q by omega,show ¬i=ny+1 by omega,g7 i h]⟩
 ·have:k=l.length:=by omega
  subst this;rw [List.take_length] at g2;rw [List.take_of_length_le (by simp)] at g3
  have hjs:=fun (τ':Nat→aG) (h1:τ' q= .arr 8 ((l.map fun n=>n.s).map aF.row))=>aWP (l.map fun n=>n.s) (by rw [List.length_map];exact hl) (fun t ht=>by
   obtain ⟨n,hn,rfl⟩:=List.mem_map.1 ht
   exact hlo n hn) (σ:=τ') (nx:=ny) (r:=q) g5 h1
  have htg:kQ l=(⟨(eU (l.map fun n=>n.s)).1,iR l,[]⟩,(eU (l.map fun n=>n.s)).2):=rfl;generalize kQ l=TG at *;generalize eU (l.map fun n=>n.s)=J at *;generalize iR l=c at *;subst htg;simp [go_sem];refine aL rfl rfl rfl (args:=[.ref q]) (f:=257) (by simp [go_sem]) (by simp [go_sem,hB]) (hjs _ (by rw [List.map_map];exact g3)) ?_;refine aD ?_;simp [go_sem,aF.a,aF.cs,g2,g6,aDI];exact ⟨by omega,fun i h=>by simp [show ¬i=nx by omega,show ¬i=nx+1 by omega,g7 i h],rfl⟩
theorem aL1 {α:Type} {l:List α} (h:l.Nodup) {i j:Nat} (hi:i<l.length) (hj:j<l.length) (e:l[i]=l[j]):i=j:=by
 rcases Nat.lt_trichotomy i j with h1 | h1 | h1
 ·exact absurd e (List.pairwise_iff_getElem.1 h i j hi hj h1)
 ·exact h1
 ·exact absurd e.symm (List.pairwise_iff_getElem.1 h j i hj hi h1)
theorem aYW {α:Type} {l:List α} (h:l.Nodup) {a:α} (hm:a∉l) (i:Nat):(l.set i a).Nodup:=by
 refine List.pairwise_iff_getElem.2 fun j k hj hk hjk=>?_
 rw [List.length_set] at hj hk;rw [List.getElem_set,List.getElem_set];split
 ·split
  ·omega
  ·exact fun e=>hm (e ▸ List.getElem_mem _)
 ·split
  ·exact fun e=>hm (e ▸ List.getElem_mem _)
  ·exact List.pairwise_iff_getElem.1 h j k hj hk hjk
abbrev kv (i:Int):Value:=.int .i64 i
noncomputable def jT (K:List (Int×Nat)):List (Value×AV):=K.map fun p=>(kv p.1,.ref p.2)
def iI (i:Int):List (Int×Nat)→Option (Nat×Nat)
 |[]=>none
 |p :: K=>if p.1=i then some (0,p.2) else (iI i K).map fun r=>(r.1+1,r.2)
def mP (i:Int) (q:Nat) (K:List (Int×Nat)):List (Int×Nat):=match iI i K with
 |some (j,_)=>K.set j (i,q)
 |none=>K++[(i,q)]
theorem aKI {i j:Int}:kv i=kv j↔i=j:=⟨fun h=>by injection h,fun h=>by rw [h]⟩
theorem x6 (i:Int):∀(K:List (Int×Nat)),fC (kv i) (jT K)=(iI i K).map fun r=>(r.1,.ref r.2)
 |[]=>rfl
 |p :: K=>by
  have e:jT (p :: K)=(kv p.1,.ref p.2) :: jT K:=rfl;rw [e,fC,iI,x6 i K];by_cases h:p.1=i
  ·rw [if_pos (by rw [h]),if_pos h];rfl
  ·rw [if_neg (fun e=>h (aKI.1 e)),if_neg h,Option.map_map,Option.map_map];rfl
theorem vC {i:Int}:∀{K:List (Int×Nat)} {j q:Nat},iI i K=some (j,q)→∃h:j<K.length,K[j]=(i,q)
 |[],j,q,h=>by cases h
 |p :: K,j,q,h=>by
  rw [iI] at h;split at h
  ·rename_i e;cases h;exact ⟨by simp,by rw [←e];rfl⟩
  ·obtain ⟨r,h1,h2⟩:=Option.map_eq_some_iff.1 h;cases h2;obtain ⟨h3,h4⟩:=vC h1;exact ⟨by simp;omega,by simpa using h4⟩
theorem vB {i:Int}:∀{K:List (Int×Nat)},iI i K=none→i∉K.map Prod.fst
 |[],_=>by simp
 |p :: K,h=>by
  rw [iI] at h;split at h
  ·cases h
  ·rename_i e;have:=vB (Option.map_eq_none_iff.1 h);simp only [List.map_cons,List.mem_cons,not_or];exact ⟨fun h=>e h.symm,this⟩
theorem aN9 (i:Int) (q:Nat) (K:List (Int×Nat)):hZ (kv i) (.ref q) (jT K)=jT (mP i q K):=by
 rw [hZ,x6,mP];cases h:iI i K with
 |none=>simp [jT]
 |some r=>simp [jT,List.map_set]
theorem yH (i:Int) (K:List (Int×Nat)):mE P 3 (.i i) (kv i) (jT K):=by
 intro e he;obtain ⟨p,hp,rfl⟩:=List.mem_map.1 he;refine ⟨.i p.1,rfl,?_⟩;have:iS P 10000 3 (.i i) (.i p.1)=some (decide (i=p.1)):=by simp [iS,oU]
 rw [this];congr 1;rw [decide_eq_decide];exact ⟨fun h=>by rw [h],fun h=>(aKI.1 h).symm⟩
def iF (L:List aC) (i:Int):List aC:=L.filter fun n=>decide (n.s.spot=i)
structure KI (K:List (Int×Nat)) (L:List aC) (σ:Nat→aG) (base nx:Nat):Prop where
 keys:(K.map Prod.fst).Nodup
 objs:(K.map Prod.snd).Nodup
 rows:∀p∈K,σ p.2= .arr 10 (aM (iF L p.1))∧base≤p.2∧p.2<nx
 none:∀i,i∉K.map Prod.fst→iF L i=[]
theorem aCI (L:List aC) (n:aC) (i:Int):iF (L++[n]) i=iF L i++if n.s.spot=i then [n] else []:=by rw [iF,List.filter_append,iF];congr 1;by_cases h:n.s.spot=i<;>simp [h]
theorem aKH {i:Int} {q:Nat} {K:List (Int×Nat)}:((mP i q K).map Prod.fst=K.map Prod.fst∧i∈K.map Prod.fst)∨((mP i q K).map Prod.fst=K.map Prod.fst++[i]∧i∉K.map Prod.fst):=by
 unfold mP;cases h:iI i K with
 |none=>exact .inr ⟨by simp,vB h⟩
 |some r=>
  obtain ⟨j,q0⟩:=r;obtain ⟨h1,h2⟩:=vC h;refine .inl ⟨?_,List.mem_map.2 ⟨_,List.getElem_mem h1,by rw [h2]⟩⟩;simp only [List.map_set];refine List.ext_getElem (by simp) fun k hk1 hk2=>?_
  rw [List.getElem_set];split
  ·rename_i e;subst e;rw [List.getElem_map,h2]
  ·rfl
theorem aWR {i:Int} {q:Nat} {K:List (Int×Nat)} (hk:(K.map Prod.fst).Nodup) {p:Int×Nat} (hp:p∈mP i q K):p=(i,q)∨(p∈K∧p.1≠i):=by
 unfold mP at hp;cases h:iI i K with
 |none=>
  rw [h] at hp;rcases List.mem_append.1 hp with hp | hp
  ·refine .inr ⟨hp,fun e=>vB h (List.mem_map.2 ⟨p,hp,e⟩)⟩
  ·exact .inl (List.mem_singleton.1 hp)
 |some r=>
  obtain ⟨j,q0⟩:=r;rw [h] at hp;obtain ⟨h1,h2⟩:=vC h;obtain ⟨k,hk1,hk2⟩:=List.getElem_of_mem hp;simp only [List.length_set] at hk1;rw [List.getElem_set] at hk2;split at hk2
  ·exact .inl hk2.symm
  ·rename_i e;refine .inr ⟨by rw [←hk2];exact List.getElem_mem _,fun e2=>e ?_⟩;have e3:(K.map Prod.fst)[j]'(by simpa using h1)=(K.map Prod.fst)[k]'(by simpa using hk1):=by rw [List.getElem_map,List.getElem_map,h2,hk2,e2]
   exact aL1 hk _ _ e3
theorem KI.ne {K:List (Int×Nat)} {L:List aC} {σ:Nat→aG} {base nx:Nat} (h:KI K L σ base nx) {a b:Int×Nat} (ha:a∈K) (hb:b∈K) (hne:a.1≠b.1):a.2≠b.2:=by
 intro e;obtain ⟨j,hj1,hj2⟩:=List.getElem_of_mem ha;obtain ⟨k,hk1,hk2⟩:=List.getElem_of_mem hb;have e3:(K.map Prod.snd)[j]'(by simpa using hj1)=(K.map Prod.snd)[k]'(by simpa using hk1):=by rw [List.getElem_map,List.getElem_map,hj2,hk2,e]
 have:=aL1 h.objs _ _ e3;subst this;rw [hj2] at hk2;exact hne (by rw [hk2])
theorem KI.add {K:List (Int×Nat)} {L:List aC} {σ σ':Nat→aG} {base nx nx' q:Nat} {n:aC} (h:KI K L σ base nx) (hq:nx≤q∧q<nx') (hb:base≤nx) (hs:∀p∈K,p.1≠n.s.spot→σ' p.2=σ p.2) (hσq:σ' q= .arr 10 (aM (iF L n.s.spot++[n]))):
  KI (mP n.s.spot q K) (L++[n]) σ' base nx':=by
 refine ⟨?_,?_,fun p hp=>?_,fun i hi=>?_⟩
 ·rcases aKH (i:=n.s.spot) (q:=q) (K:=K) with ⟨e,_⟩ | ⟨e,e2⟩
  ·rw [e];exact h.keys
  ·rw [e,List.nodup_append];exact ⟨h.keys,by simp,fun a ha b hb=>by rw [List.mem_singleton.1 hb];exact fun e=>e2 (e ▸ ha)⟩
 ·have hlt:∀a∈K.map Prod.snd,a<nx:=fun a ha=>by obtain ⟨p,hp,rfl⟩:=List.mem_map.1 ha;exact (h.rows p hp).2.2
  unfold mP;cases hf:iI n.s.spot K with
  |none=>simp only [List.map_append,List.map_cons,List.map_nil];rw [List.nodup_append];exact ⟨h.objs,by simp,fun a ha b hb=>by rw [List.mem_singleton.1 hb];have:=hlt a ha;omega⟩
  |some r=>simp only [List.map_set];exact aYW h.objs (fun hm=>by have:=hlt q hm;omega) _
 ·rcases aWR h.keys hp with rfl | ⟨h1,h2⟩
  ·refine ⟨?_,by simp only;omega,hq.2⟩;rw [aCI,if_pos rfl];exact hσq
  ·obtain ⟨r1,r2,r3⟩:=h.rows p h1;refine ⟨?_,r2,by omega⟩;rw [aCI,if_neg (fun e=>h2 e.symm),List.append_nil,hs p h1 h2,r1]
 ·have:i∉K.map Prod.fst∧i≠n.s.spot:=by
   rcases aKH (i:=n.s.spot) (q:=q) (K:=K) with ⟨e,e2⟩ | ⟨e,e2⟩
   ·rw [e] at hi;exact ⟨hi,fun e3=>hi (e3 ▸ e2)⟩
   ·rw [e] at hi;simp only [List.mem_append,List.mem_singleton,not_or] at hi;exact hi
  rw [aCI,if_neg (fun e=>this.2 e.symm),h.none i this.1,List.append_nil]
theorem aX4 (x:aA) (w:Int):max w x.stops.length=(x.mostN w:Int):=by unfold aA.mostN;omega
theorem aLH (x:aA) (w:Int):Pure P 191 [x.a,.i w] (.i (x.mostN w)):=by
 rw [←aX4];refine aW Tryz.func191 rfl rfl (by simp [Tryz.f191]) (by simp [aE,aE.bndL,aA.a]) (by simp [aE,aE.bndL]) fun B hB hnx=>?_
 simp only [Tryz.f191] at hB ⊢;refine aD ?_;simp [go_sem,aA.a]
theorem bDY (x:aA) (l:List aC) (w:Int) (hx:x.stops.length<2^31) (hl:l.length<2^31) (hn:∀n∈l,n.Fine):Pure P 193 [x.a,.t (.sl (aM l)),.i w] (.t (.sl (aM (x.squeeze l w)))):=by
 generalize hR:x.squeeze l w=R;refine aW Tryz.func193 rfl rfl (by simp [Tryz.f193]) (by simp [aE,aE.bndL,aA.a]) (by simp [aE,aE.bndL]) fun B hB hnx=>?_
 simp only [Tryz.f193] at hB ⊢;have hso:=aOK x l hx hl hn;have hmo:=aLH x w;have hfS:∀n∈x.sortN l,n.Fine:=fun n h=>hn n (aA.sortN_mem.1 h)
 have hSl:=x.sortN_len l;rw [aA.squeeze] at hR;generalize x.sortN l=S at *;have hM1:x.stops.length≤x.mostN w:=Nat.le_max_right _ _;generalize x.mostN w=M at *;have hNl:(aM S).length=S.length:=List.length_map _;refine aD ?_;simp [go_sem,aA.a];refine aL rfl rfl rfl (args:=[x.a,.t (.sl (aM l))]) (f:=139) (by simp [go_sem,aA.a]) (by simp [go_sem,hB]) ((hso).spec _ _) ?_;refine aD ?_;simp [go_sem];refine aL rfl rfl rfl (args:=[x.a,.i w]) (f:=191) (by simp [go_sem,aA.a]) (by simp [go_sem,hB]) ((hmo).spec _ _) ?_;by_cases c1:S.length≤M
 ·rw [if_pos c1] at hR;subst hR;refine aD ?_;simp [go_sem,hNl,c1]
 rw [if_neg c1] at hR;have hM2:M<2^31:=by omega
 obtain ⟨kp,hkp⟩:∃kp,kp=M-x.stops.length:=⟨_,rfl⟩;have hkp2:(M:Int)-x.stops.length=kp:=by omega
 have hw1:IntKind.i64.wrap ((M:Int)-x.stops.length)=kp:=by rw [hkp2];exact aO _ (by omega)
 have hkl:kp<S.length:=by omega
 have hS1:=vG S;rw [←hkp] at hR;have hXd:(aM S).drop kp=aM (S.drop kp):=by rw [aM,aM,List.map_drop]
 have hXt:(aM S).take kp=aM (S.take kp):=by rw [aM,aM,List.map_take]
 have hrl:(S.drop kp).length=S.length-kp:=List.length_drop;have hrf:∀n∈S.drop kp,n.Fine:=fun n h=>hfS n (List.mem_of_mem_drop h)
 have hfl:(S.take kp).length≤kp:=by rw [List.length_take];omega
 refine aD ?_;simp [go_sem,hNl,c1,hw1,if_pos hS1,hkl,Nat.le_of_lt hkl,hXd,hXt];generalize S.drop kp=rest at *;generalize S.take kp=front at *;have hQl:(aM rest).length=rest.length:=List.length_map _;have hgt:∀(k:Nat) (h:k<rest.length),(aM rest)[k]'(by rw [hQl];exact h)=rest[k].t:=fun k h=>jX rest h
 generalize hX:aM rest=X at *;have hmost:bH=4294967296:=rfl
 refine bA (α:=Nat×List (Int×Nat)×(Nat→aG)×Nat) (fun (k,K,τ,ny)=>k≤rest.length∧KI K (rest.take k) τ 2 ny∧τ 0= .box x.cs∧τ 1= .map (jT K)∧2≤ny)
  (fun (k,K,τ,ny)=>⟨sl [(3,.ptr 0 0),(9,.fsl (aM front)),(10,.mapr 1),(39,.t (.sl X)),(40,.i rest.length),(41,.i k)],τ,ny⟩) (fun a=>rest.length-a.1) (0,[],_,2) ?_ (aH.slots (by simp [go_sem,hQl]) rfl rfl) ?_
 ·exact ⟨Nat.zero_le _,⟨by simp,by simp,fun p h=>(by cases h),fun i _=>by simp [iF]⟩,by simp [aB,aA.cs],by simp [aB,jT],by omega⟩
 rintro ⟨k,K,τ,ny⟩ ⟨g1,g2,g3,g4,g5⟩;refine aI ?_;simp [go_sem];refine bU (fun hk=>?_) (fun hk=>?_)
 ·have hkk:IntKind.i64.wrap ((k:Int)+1)=((k+1:Nat):Int):=by rw [aO ((k:Int)+1) (by omega)];rfl
  have hget:∀h:k<X.length,X[k]'h=rest[k].t:=fun h=>hgt k hk
  have htk:rest.take (k+1)=rest.take k++[rest[k]]:=List.take_succ_eq_append_getElem hk;have hgl:(iF (rest.take k) rest[k].s.spot).length≤k:=by refine Nat.le_trans (List.length_filter_le _ _) ?_;rw [List.length_take];omega
  have hadd:=fun (τ':Nat→aG) (ny' q:Nat)=>g2.add (n:=rest[k]) (σ':=τ') (nx':=ny') (q:=q)
  rw [←htk] at hadd;generalize rest[k]=n at *;have n0:¬0=ny:=by omega
  have n1:¬1=ny:=by omega
  simp [go_sem,hQl,hk,hget,aC.t,n0,n1];refine cT [11,12] [0,1,2,3] rfl (by rw [hB];kernel_rfl) (by kernel_rfl) fun ht hf'=>?_
  refine aD ?_;simp [go_sem,ht,hf'];refine aQA (kt:=3) (et:=85) (es:=jT K) (u:=kv n.s.spot) (m:=1) (r:=match iI n.s.spot K with | some r=>.ref r.2 | none=>.fsl []) (by simp [go_sem]) rfl wH rfl tT (by kernel_rfl) (by simp [go_sem]) (by simp [go_sem,g4,n1,show ¬ny=0 by omega]) (by simp [go_sem];rfl) (by simp [go_sem];kernel_rfl) (by simp [go_sem];exact yH _ _) ?_ (by simp [ht]) ?_
  ·rw [pP,x6];cases iI n.s.spot K with
   |none=>simp [go_sem]
   |some r=>simp
  have hcap1:1≤bH:=by decide
  cases hf:iI n.s.spot K with
  |none=>
   have hgr:iF (rest.take k) n.s.spot=[]:=g2.none _ (vB hf);refine aD ?_;simp [go_sem,ht,hf',n0,n1,hcap1];refine wU (fun ho=>aHX (P:=P) (n:=B.n) (kt:=3) (et:=85) (es:=jT K) (u:=kv n.s.spot) (q:=1) ho (by simp [go_sem]) rfl wH rfl (by kernel_rfl) (by simp [go_sem]) (by simp [go_sem,g4,n1,show ¬ny=0 by omega]) (by simp [go_sem];rfl) (by simp [go_sem];kernel_rfl) (by simp [go_sem];exact yH _ _) (.inr (by simp [Instr.sameBits]))) (by simp) (fun q hq=>by rw [List.mem_singleton.1 hq];exact .inl (by kernel_rfl)) ?_;refine aD ?_;simp [go_sem,ht,hf',hkk,aN9];refine Next.mk (k+1,mP n.s.spot (ny+1) K,_,ny+2) ?_ (aH.slots (by simp [go_sem]) rfl rfl) (by simp only;omega);refine ⟨by simp only;omega,?_,by simp [aB,g3,n0],by simp [aB],by simp only;omega⟩;refine hadd _ (ny+2) (ny+1) ⟨by omega,by omega⟩ g5 (fun p hp hne=>?_) ?_
   ·obtain ⟨_,s2,s3⟩:=g2.rows p hp;simp [aB,show ¬p.2=ny by omega,show ¬p.2=1 by omega,show ¬p.2=ny+1 by omega]
   ·rw [hgr];simp [aB,aM,aC.t,show ¬ny=0 by omega]
  |some r=>
   obtain ⟨j,q⟩:=r;obtain ⟨hj1,hj2⟩:=vC hf;have hmem:(n.s.spot,q)∈K:=hj2 ▸ List.getElem_mem hj1;obtain ⟨r1,r2,r3⟩:=g2.rows (n.s.spot,q) hmem;simp only at r1 r2 r3;have n2:¬q=ny:=by omega
   have n3:¬1=q:=by omega
   have n4:¬0=q:=by omega
   have n5:¬ny=q:=by omega
   have hcap2:(aM (iF (rest.take k) n.s.spot)).length+1≤bH:=by rw [aM,List.length_map];omega
   refine aD ?_;simp [go_sem,ht,hf',n0,n1,n2,n5,r1,hcap2];refine wU (fun ho=>aHX (P:=P) (n:=B.n) (kt:=3) (et:=85) (es:=jT K) (u:=kv n.s.spot) (q:=1) ho (by simp [go_sem]) rfl wH rfl (by kernel_rfl) (by simp [go_sem]) (by simp [go_sem,g4,n1,n3,n4,show ¬ny=0 by omega]) (by simp [go_sem];rfl) (by simp [go_sem];kernel_rfl) (by simp [go_sem];exact yH _ _) (.inr (by simp [Instr.sameBits]))) (by simp) (fun q hq=>by rw [List.mem_singleton.1 hq];exact .inl (by kernel_rfl)) ?_;refine aD ?_;simp [go_sem,ht,hf',hkk,aN9];refine Next.mk (k+1,mP n.s.spot (ny+1) K,_,ny+2) ?_ (aH.slots (by simp [go_sem]) rfl rfl) (by simp only;omega);refine ⟨by simp only;omega,?_,by simp [aB,g3,n0,n4],by simp [aB],by simp only;omega⟩;refine hadd _ (ny+2) (ny+1) ⟨by omega,by omega⟩ g5 (fun p hp hne=>?_) ?_
   ·obtain ⟨_,s2,s3⟩:=g2.rows p hp;have:=g2.ne hp hmem hne;simp only at this;simp [aB,show ¬p.2=ny by omega,show ¬p.2=1 by omega,show ¬p.2=ny+1 by omega,this]
   ·simp [aB,aM,aC.t,show ¬ny=0 by omega]
 ·have:k=rest.length:=by omega
  subst this;rw [List.take_length] at g2;simp [go_sem,g3];have hok:∀(L:List aC),(∀n∈L,n∈rest)→∀n∈L,n.s.ok:=fun L h n hn=>(hrf n (h n hn)).ok
  refine bA (α:=Nat×AV×List aC×(Nat→aG)×Nat) (fun (i,A,out,τ',my)=>i≤x.stops.length∧(A= .fsl (aM out)∨∃q,A= .ref q∧τ' q= .arr 10 (aM out)∧ny≤q∧q<my)∧(out++((List.range x.stops.length).drop i).flatMap (nO rest)=R∧out.length≤kp+i)∧τ' 1= .map (jT K)∧ny≤my∧∀p∈K,τ' p.2=τ p.2)
   (fun (i,A,out,τ',my)=>⟨sl [(9,A),(10,.mapr 1),(60,.i x.stops.length),(61,.i i)],τ',my⟩) (fun a=>x.stops.length-a.1) (0,.fsl (aM front),front,τ,ny) ?_ (aH.slots (by simp [go_sem]) rfl rfl) ?_
  ·exact ⟨Nat.zero_le _,.inl rfl,⟨hR,hfl⟩,g4,Nat.le_refl _,fun p _=>rfl⟩
  rintro ⟨i,A,out,τ',my⟩ ⟨f1,f2,⟨f3,f3'⟩,f4,f5,f6⟩;refine aI ?_;simp [go_sem];refine bU (fun hi=>?_) (fun hi=>?_)
  ·have hii:IntKind.i64.wrap ((i:Int)+1)=((i+1:Nat):Int):=by rw [aO ((i:Int)+1) (by omega)];rfl
   rw [List.drop_eq_getElem_cons (by rw [List.length_range];exact hi),List.getElem_range,List.flatMap_cons,←List.append_assoc] at f3;have hone:nO rest i=if (kQ (iF rest i)).2=true then [(kQ (iF rest i)).1] else []:=rfl
   have htg:=fun (τ2:Nat→aG) (m2 q:Nat) (h1:q<m2) (h2:τ2 q= .arr 10 (aM (iF rest i)))=>bE5 (iF rest i) (Nat.lt_of_le_of_lt (List.length_filter_le _ _) (by omega)) (hok _ fun n hn=>(List.mem_filter.1 hn).1) (σ:=τ2) (nx:=m2) (r:=q) h1 h2
   simp [go_sem];refine aF9 (kt:=3) (et:=85) (es:=jT K) (u:=kv i) (m:=1) (r:=match iI i K with | some r=>.ref r.2 | none=>.fsl []) rfl rfl (by simp [go_sem,hB]) wH rfl tT (by kernel_rfl) (by simp [go_sem]) (by simp [go_sem,f4]) (by simp [go_sem];rfl) (by simp [go_sem];kernel_rfl) (by simp [go_sem];exact yH _ _) ?_ ?_
   ·rw [pP,x6];cases iI i K with
    |none=>simp [go_sem]
    |some r=>simp
   refine aQH (α:=Nat×(Nat→aG)×Nat) (fun (q,τ2,m2)=>my≤m2∧q<m2∧τ2 q= .arr 10 (aM (iF rest i))∧∀j,j<my→τ2 j=τ' j) (fun (q,τ2,m2)=>⟨sl [(9,A),(10,.mapr 1),(60,.i x.stops.length),(61,.i i),(67,.ref q)],τ2,m2⟩) ?_ ?_
   ·cases hf:iI i K with
    |none=>
     have hgr:iF rest i=[]:=g2.none _ (vB hf);refine ⟨(my,_,my+1),⟨by omega,by omega,?_,?_⟩,(aH.own (t:=67) (sz:=10) (by simp [go_sem])).trans (aH.slots (by simp [go_sem]) rfl rfl)⟩
     ·rw [hgr];simp [aB,aM]
     ·intro j hj;simp [aB,show ¬j=my by omega]
    |some r=>obtain ⟨j,q⟩:=r;obtain ⟨hj1,hj2⟩:=vC hf;have hmem:((i:Int),q)∈K:=hj2 ▸ List.getElem_mem hj1;obtain ⟨r1,r2,r3⟩:=g2.rows _ hmem;refine ⟨(q,_,my),⟨Nat.le_refl _,by simp only at r3 ⊢;omega,?_,fun _ _=>rfl⟩,aH.slots (by simp [go_sem]) rfl rfl⟩;exact (f6 _ hmem).trans r1
   rintro ⟨q,τ2,m2⟩ ⟨e1,e2,e3,e4⟩;refine aL rfl rfl rfl (args:=[.ref q]) (f:=228) (by simp [go_sem]) (by simp [go_sem,hB]) (htg _ _ _ e2 e3) ?_;generalize kQ (iF rest i)=TG at *;obtain ⟨tn,tb⟩:=TG;have hcap1:1≤bH:=by decide
   have hcap2:(aM out).length+1≤bH:=by rw [aM,List.length_map];omega
   have m1:¬1=m2:=by omega
   have m0:¬1=m2+1:=by omega
   have hlow:∀j,ny≤j→j≠1:=fun j h=>by omega
   cases tb with
   |false=>
    rw [hone,if_neg (by simp),List.append_nil] at f3;refine aD ?_;simp [go_sem,aC.a,aC.cs,hii];refine Next.mk (i+1,A,out,_,m2+1) ?_ (aH.slots (by simp [go_sem]) rfl rfl) (by simp only;omega);refine ⟨by simp only;omega,?_,⟨f3,by simp only;omega⟩,by simp [aB,m1,e4 1 (by omega),f4],by simp only;omega,?_⟩
    ·rcases f2 with f2 | ⟨q',f2,f7,f8,f9⟩
     ·exact .inl f2
     ·exact .inr ⟨q',f2,by simp [aB,show ¬q'=m2 by omega,e4 q' f9,f7],f8,by simp only;omega⟩
    ·intro a b hab;have h1:=(g2.rows _ hab).2.2;have h2:=f6 _ hab;simp only at h1 h2;simp [aB,show ¬b=m2 by omega,e4 b (by omega),h2]
   |true=>
    rw [hone,if_pos (by simp)] at f3;simp only at f3;have hsn:aM (out++[tn])=aM out++[tn.t]:=by simp [aM]
    rcases f2 with f2 | ⟨q',f2,f7,f8,f9⟩
    ·subst f2;refine aD ?_;simp [go_sem,aC.a,aC.cs,hcap1,hcap2,hii,if_pos (vG out)];refine Next.mk (i+1,.ref (m2+1),out++[tn],_,m2+2) ?_ (aH.slots (by simp [go_sem]) rfl rfl) (by simp only;omega);refine ⟨by simp only;omega,.inr ⟨m2+1,rfl,?_,by omega,by simp only;omega⟩,⟨f3,by simp only [List.length_append,List.length_cons,List.length_nil];omega⟩,by simp [aB,m1,m0,e4 1 (by omega),f4,show ¬m2=0 by omega],by simp only;omega,?_⟩
     ·rw [hsn];simp [aB,aC.t]
     ·intro a b hab;have h1:=(g2.rows _ hab).2.2;have h2:=f6 _ hab;simp only at h1 h2;simp [aB,show ¬b=m2 by omega,show ¬b=m2+1 by omega,e4 b (by omega),h2]
    ·subst f2;have hq1:¬q'=m2:=by omega
     have hq2:¬m2=q':=by omega
     have hq3:¬1=q':=by omega
     refine aD ?_;simp [go_sem,aC.a,aC.cs,hcap1,hcap2,hii,hq1,e4 q' f9,f7];refine Next.mk (i+1,.ref (m2+1),out++[tn],_,m2+2) ?_ (aH.slots (by simp [go_sem]) rfl rfl) (by simp only;omega);refine ⟨by simp only;omega,.inr ⟨m2+1,rfl,?_,by omega,by simp only;omega⟩,⟨f3,by simp only [List.length_append,List.length_cons,List.length_nil];omega⟩,by simp [aB,m1,m0,hq3,e4 1 (by omega),f4,show ¬m2=0 by omega],by simp only;omega,?_⟩
     ·rw [hsn];simp [aB,aC.t]
     ·intro a b hab;have h1:=(g2.rows _ hab).2.2;have h2:=f6 _ hab;simp only at h1 h2;simp [aB,show ¬b=m2 by omega,show ¬b=m2+1 by omega,show ¬b=q' by omega,e4 b (by omega),h2]
  ·have:i=x.stops.length:=by omega
   subst this;rw [List.drop_of_length_le (by simp),List.flatMap_nil,List.append_nil] at f3;subst f3;rcases f2 with f2 | ⟨q',f2,f7,f8,f9⟩
   ·subst f2;simp [go_sem]
   ·subst f2;simp [go_sem,f7]
theorem aS7 (l:List aC) (hl:l.length<4294967296) (σ:Nat→aG) (nx:Nat):aT P 227 [.t (.sl (aM l))] σ nx (.ref nx) (aB σ nx (.arr 10 (aM l))) (nx+1):=by
 refine bN.spec (cA Tryz.func227 rfl rfl (by simp [Tryz.f227]) fun B hB hnx hσ=>tW ?_);simp only [Tryz.f227] at hB ⊢;have hil:(aM l).length=l.length:=List.length_map _;have hne:aM l=[]↔l=[]:=by simp [aM]
 have h1:=vG l;have hmost:l.length≤bH:=by show l.length≤4294967296;omega
 refine aD ?_;simp [go_sem];refine aGA (es:=aM l) rfl rfl (by simp [go_sem,hB]) tT rfl (by simp [go_sem]) fun b hb=>?_
 cases b with
 |true=>
  have e:l=[]:=Decidable.byContradiction fun h=>by have:=hb (fun h'=>h (hne.1 h'));cases this
  have e2:aM l=[]:=hne.2 e;refine aD ?_;simp [go_sem];refine ⟨_,fun a w hr=>zI (t:=2) (sz:=10) (by simp [go_sem]) hr,?_⟩;simp [go_sem,e2]
 |false=>refine aD ?_;simp [go_sem,hil,hne,hmost,if_pos h1];refine ⟨_,aH.self,?_⟩;simp [go_sem]
theorem aZT (l:List aC) (hl:l.length<2^31) (hp:∀n∈l,n.path.length<2^31):Pure P 192 [.t (.sl (aM l))] (.t (.sl (aM l))):=by
 refine aW Tryz.func192 rfl rfl (by simp [Tryz.f192]) (by simp [aE,aE.bndL]) (by simp [aE,aE.bndL]) fun B hB hnx=>?_
 simp only [Tryz.f192] at hB ⊢;have hil:(aM l).length=l.length:=List.length_map _;have hgt:∀(k:Nat) (h:k<l.length),(aM l)[k]'(by rw [hil];exact h)=l[k].t:=fun k h=>jX l h
 refine aD ?_;simp [go_sem];refine aL rfl rfl rfl (args:=[.t (.sl (aM l))]) (f:=227) (by simp [go_sem]) (by simp [go_sem,hB]) (aS7 l (by omega) _ _) ?_;refine aD ?_;simp [go_sem,hil];refine bA (α:=Nat×(Nat→aG)×Nat) (fun (k,τ,ny)=>k≤l.length∧τ 0= .arr 10 (aM l)∧0<ny) (fun (k,τ,ny)=>⟨sl [(0,.ref 0),(7,.ref 0),(8,.i l.length),(9,.i k)],τ,ny⟩) (fun a=>l.length-a.1) (0,_,1) ⟨Nat.zero_le _,by simp [aB],by omega⟩ (aH.slots (by simp [go_sem]) rfl rfl) ?_;rintro ⟨k,τ,ny⟩ ⟨g1,g2,g3⟩;refine aI ?_;simp [go_sem];refine bU (fun hk=>?_) (fun hk=>?_)
 ·have hkk:IntKind.i64.wrap ((k:Int)+1)=((k+1:Nat):Int):=by rw [aO ((k:Int)+1) (by omega)];rfl
  have hget:∀h:k<(aM l).length,(aM l)[k]'h=l[k].t:=fun h=>hgt k hk
  have hpk:=hp l[k] (List.getElem_mem _)
  have hset:∀y,y=l[k].t→(aM l).set k y=aM l:=fun y hy=>by
   subst hy;refine List.ext_getElem (by simp) fun i h1 h2=>?_
   rw [List.getElem_set];split
   ·rename_i e;subst e;exact (hget h2).symm
   ·rfl
  generalize hm:l[k]=m at *;have n0:¬0=ny:=by omega
  have q1:(k*10+9) / 10=k:=by omega
  have q2:(k*10+9) % 10=9:=by omega
  simp [go_sem,hil,hk,hget,aC.t,g2,n0];refine aL rfl rfl rfl (args:=[.t (.sl (aJ m.path))]) (f:=93) (by simp [go_sem]) (by simp [go_sem,hB]) (sF m.path (by omega) _ _) ?_;refine iB ((aH.freeze (q:=ny+1) (sz:=1) (es:=aJ m.path) (by simp [aB])).trans (aH.slots (l:=[(0,.ref 0),(7,.ref 0),(8,.i l.length),(9,.i k),(14,.ref 0),(15,.i k),(18,.t (.sl (aJ m.path)))]) (by simp [go_sem,bB]) rfl rfl)) ?_;have hfz:dC (ny+1) (aJ m.path) (.arr 10 (aM l))= .arr 10 (aM l):=rfl;refine aD ?_;simp [go_sem,g2,n0,hil,hk,hget,aC.t,q1,q2,hfz,hkk,show ¬ny=0 by omega];refine Next.mk (k+1,_,ny+2) ⟨by simp only;omega,?_,by simp only;omega⟩ (aH.slots (by simp [go_sem]) rfl rfl) (by simp only;omega);simp only [aB,if_true];exact congrArg (aG.arr 10) (hset _ rfl)
 ·have:k=l.length:=by omega
  subst this;simp [go_sem,g2]
theorem aZR (x:aA) (w:Int) (l:List aC) {σ:Nat→aG} {nx a b:Nat} (ha:a<nx) (hb:b<nx) (h1:σ a= .box x.cs) (h2:σ b= .box [.i w]):
  aT P 190 [.t (.sl (aM l)),.ptr a 0,.ptr b 0] σ nx (.b (decide (x.mostN w<l.length))) σ nx:=by
 refine iM Tryz.func190 rfl rfl (by simp [Tryz.f190]) (by simp [aE]) fun hk B hB hnx hσB=>?_
 simp only [Tryz.f190] at hB ⊢;have hm:=aLH x w;have hil:(aM l).length=l.length:=List.length_map _;generalize x.mostN w=M at *;refine aD ?_;simp [go_sem,h1,h2,hil,aA.cs];refine aL rfl rfl rfl (args:=[x.a,.i w]) (f:=191) (by simp [go_sem,aA.a]) (by simp [go_sem,hB]) ((hm).spec _ _) ?_;refine aD ?_;simp [go_sem]
set_option maxHeartbeats 2000000
def dQ (ls:List (List aC)):List (List T):=ls.map fun l=>[.sl (aM l)]
def aX.cs (d:aX):List AV:=[.t (.sl (dQ d.layers)),.i d.low,.b d.exact,.i d.sure]
def aX.a (d:aX):AV:=.agg d.cs
structure kX (l:List aC) (K:Nat):Prop where
 ok:∀n∈l,n.s.ok
 path:∀n∈l,n.path.length≤K
theorem kX.next {x:aA} {l:List aC} {K:Nat} (h:kX l K) (up:Int):kX (x.next l up) (K+1):=by
 refine ⟨?_,?_⟩<;>(intro m hm;obtain ⟨n,hn,j,hj,rfl,_⟩:=gZ hm)
 ·exact nM x j (h.ok n hn)
 ·have:=h.path n hn;show (n.path++[j]).length≤K+1;rw [List.length_append];simp only [List.length_cons,List.length_nil];omega
theorem aJD:∀(l:List aF) (s:aF),s.ok→(∀t∈l,t.ok)→(l.foldl aF.join s).ok
 |[],s,h,_=>h
 |t :: l,s,h,k=>aJD l (s.join t) (aKC h (k t List.mem_cons_self)) fun u hu=>k u (List.mem_cons_of_mem _ hu)
theorem aWK {l:List aF} (h:∀t∈l,t.ok):(eU l).1.ok:=by
 cases l with
 |nil=>exact aF.zero_ok
 |cons s l=>
  rw [eU];split
  ·exact aF.zero_ok
  ·exact aJD l s (h s List.mem_cons_self) fun t ht=>h t (List.mem_cons_of_mem _ ht)
theorem kX.squeeze {x:aA} {l:List aC} {K:Nat} (h:kX l K) (w:Int):kX (x.squeeze l w) K:=by
 refine ⟨fun m hm=>?_,fun m hm=>?_⟩
 ·rcases vT hm with hm | ⟨i,g,h1,h2,h3,rfl⟩
  ·exact h.ok m hm
  ·exact aWK fun t ht=>by obtain ⟨q,hq,rfl⟩:=List.mem_map.1 ht;exact h.ok q (h3 q hq).1
 ·rcases vT hm with hm | ⟨i,g,h1,h2,h3,rfl⟩
  ·exact h.path m hm
  ·exact Nat.zero_le _
theorem aHR (x:aA):0≤x.deep∧x.deep≤39:=by
 unfold aA.deep;split
 ·rename_i hm;obtain ⟨p,hx⟩:=x.fit hm;have:=hx.pairs;have:=hx.few;have:=hx.cars;omega
 ·omega
theorem aYQ {x:aA} {l:List aC} {up w:Int} (hw:w≤3000) (h:(x.next l up).length≤x.mostN w):(x.next l up).length≤3000:=by
 cases hm:x.may with
 |true=>obtain ⟨p,hx⟩:=x.fit hm;have:=hx.len;have:=hx.few;unfold aA.mostN at h;omega
 |false=>
  have:x.next l up=[]:=by
   refine List.eq_nil_iff_forall_not_mem.2 fun m hm2=>?_
   obtain ⟨n,hn,j,hj,_⟩:=gZ hm2;have:=(aC9 (jW hj)).1;rw [hm] at this;cases this
  rw [this];simp
theorem aX5 {x:aA} {l:List aC} {up w:Int} (hw:w≤3000) (h:x.mostN w<(x.next l up).length):x.mostN w≤3000:=by
 cases hm:x.may with
 |true=>obtain ⟨p,hx⟩:=x.fit hm;have:=hx.len;have:=hx.few;unfold aA.mostN;omega
 |false=>
  have:x.next l up=[]:=by
   refine List.eq_nil_iff_forall_not_mem.2 fun m hm2=>?_
   obtain ⟨n,hn,j,hj,_⟩:=gZ hm2;have:=(aC9 (jW hj)).1;rw [hm] at this;cases this
  rw [this] at h;simp at h
theorem aSK (x:aA) (n:aC) (w up:Int) (hl:x.stops.length<2^31) (hw:w≤3000) (ho:n.s.ok) (hp:n.path.length<2^29):Pure P 140 [x.a,n.a,.i w,.i up] ((x.build n w up).a):=by
 generalize hR:x.build n w up=R;refine aW Tryz.func140 rfl rfl (by simp [Tryz.f140]) (by simp [aE,aE.bndL,aA.a,aC.a,aC.cs]) (by simp [aE,aE.bndL,aX.a,aX.cs]) fun B hB hnx=>?_
 simp only [Tryz.f140] at hB ⊢;have hdeep:=aHS x (by omega);have hdl:=aHR x;have hown:=aZT [n] (by simp) (fun m hm=>by rw [List.mem_singleton.1 hm];omega);rw [aA.build] at hR;have hwd:IntKind.i64.wrap (x.deep-n.path.length)=x.deep-n.path.length:=aO _ (by omega);generalize hdp:x.deep-(n.path.length:Int)=dp at *;have hnl:(aJ n.path).length=n.path.length:=List.length_map _;refine aD ?_;simp [go_sem,aA.a,aC.a,aC.cs];refine aQR ?_;refine aD ?_;simp [go_sem];refine bK [] rfl (by rw [hB];kernel_rfl) ?_;refine aD ?_;simp [go_sem];refine bQ rfl rfl rfl (args:=[x.a]) (f:=159) (by simp [go_sem,aA.a]) (hdeep) ?_;refine aD ?_;simp [go_sem,hnl,hdp,hwd];refine aL rfl rfl rfl (args:=[.fsl [n.t]]) (f:=192) (by simp [go_sem,aC.t]) (by simp [go_sem,hB]) ((Pure.loose hown (by simp [aE])).spec _ _) ?_;refine aD ?_;simp [go_sem];refine jB (aH.ownB (b:=4) (off:=0) (sz:=1) (cs:=[.fsl [],.i up,.b true,.i 0]) (by simp [aB]) rfl) ?_
 refine bA (α:=Nat×List (List aC)×Int×Option Nat×List aC×Nat×(Nat→aG)×Nat) (fun (f,ls,low,sq,l,q,τ,ny)=>x.buildGo w up dp f ls low sq l=R∧(f:Int)+ls.length≥dp+2∧((ls.length:Int)≤dp∨ls=[])∧1≤f∧kX l (n.path.length+ls.length)∧l.length≤3000∧τ 0= .box x.cs∧τ 2= .box [.i w]∧τ 3= .box [.fsl [],.i 0,.b false,.i 0]∧τ 4= .box [.ref q,.i low,.b sq.isNone,.i (sq.getD 0:Nat)]∧τ q= .arr 1 (dQ ls)∧4<q∧q<ny)
  (fun (f,ls,low,sq,l,q,τ,ny)=>⟨sl [(3,.i up),(4,.ptr 0 0),(6,.ptr 2 0),(8,.ptr 3 0),(9,.ptr 4 0),(10,.fn (.func 190) [] [.ptr 0 0,.ptr 2 0]),(11,.i dp),(12,.t (.sl (aM l)))],τ,ny⟩) (fun a=>a.1) (dp.toNat+2,[],up,none,[n],5,_,6) ?_ (aH.slots (by simp [go_sem]) rfl rfl) ?_
 ·refine ⟨hR,by simp only [List.length_nil];omega,.inr rfl,by omega,⟨fun m hm=>by rw [List.mem_singleton.1 hm];exact ho,fun m hm=>by rw [List.mem_singleton.1 hm];omega⟩,by simp,by simp [aB,aA.cs],by simp [aB],by simp [aB],by simp [aB,cW],by simp [aB,dQ],by omega,by omega⟩
 clear hR;rintro ⟨f,ls,low,sq,l,q,τ,ny⟩ ⟨hR,g1,g2,g3,g4,g5,h0,h2,h3,h4,h5,h6,h7⟩;obtain ⟨f,rfl⟩:∃f',f=f'+1:=⟨f-1,by omega⟩;have hil:(aM l).length=l.length:=List.length_map _;have hyl:(dQ ls).length=ls.length:=List.length_map _
 have hls:ls.length≤40:=by
  rcases g2 with g2 | g2
  ·omega
  ·rw [g2];simp
 have n0:¬0=ny:=by omega
 have n2:¬2=ny:=by omega
 have n3:¬3=ny:=by omega
 have n4:¬4=ny:=by omega
 have n5:¬q=3:=by omega
 have n6:¬q=4:=by omega
 rw [aA.buildGo] at hR;by_cases c0:l=[]
 ·rw [if_pos c0] at hR;subst hR;have c0':l.length=0:=by rw [c0];rfl
  cases sq with
  |none=>refine aI ?_;simp [go_sem,hil,c0',h4,h5,hyl,n5,n6,h3];rfl
  |some k=>refine aI ?_;simp [go_sem,hil,c0',h4,h5,hyl,n5,n6,h3];rfl
 rw [if_neg c0] at hR;have c0':0<l.length:=List.length_pos_iff.2 c0;have hx:=xZ x l up hl (by omega) (fun m h=>⟨g4.ok m h,by have:=g4.path m h;omega⟩) (fun m h=>by have:=g4.path m h;omega);have hnw:=g4.next (x:=x) up;have hsn:dQ ls++[[.sl (aM l)]]=dQ (ls++[l]):=by simp [dQ]
 have hcap:ls.length+1≤bH:=by show _≤4294967296;omega
 have hsl:(dQ (ls++[l])).length=ls.length+1:=by rw [dQ,List.length_map];simp
 have n7:¬4=q:=by omega
 have n8:¬0=q:=by omega
 have n9:¬2=q:=by omega
 have na:¬3=q:=by omega
 generalize x.bests l=Bs at *;obtain ⟨b,is⟩:=Bs;have hqs:=bDY x (x.next l up) w hl (by have:=aDG x l up;omega) (fun m h=>⟨hnw.ok m h,by have:=hnw.path m h;omega⟩);have hnf:=aYQ (x:=x) (l:=l) (up:=up) hw;have hmf:=aX5 (x:=x) (l:=l) (up:=up) hw;have hsq:=aE1 x (x.next l up) w;have hsw:=hnw.squeeze (x:=x) w;generalize x.squeeze (x.next l up) w=Q at *;generalize x.next l up=M at *;refine aI ?_;simp [go_sem,hil,c0',h4,h5,hyl,hsn,hcap,n0,n2,n3,n4,n6,n7,n8,n9,na,h0,aA.cs];refine aD ?_;simp [go_sem,hil,c0',h4,h5,hyl,hsn,hcap,n0,n2,n3,n4,n6,n7,n8,n9,na,h0,aA.cs];refine aL rfl rfl rfl (args:=[x.a,.t (.sl (aM l)),.i up]) (f:=138) (by simp [go_sem,aA.a]) (by simp [go_sem,hB]) ((hx).spec _ _) ?_;have b0:¬ny=0:=by omega
 have b1:¬ny+1=0:=by omega
 have b2:¬ny=1:=by omega
 have b3:¬ny=2:=by omega
 have b4:¬ny=3:=by omega
 have b5:¬ny=4:=by omega
 have b6:¬4=ny+1:=by omega
 have hov:=fun (τ':Nat→aG) (e1:τ' 0= .box x.cs) (e2:τ' 2= .box [.i w])=>aZR x w M (σ:=τ') (nx:=ny+2) (a:=0) (b:=2) (by omega) (by omega) e1 e2
 have hwQ:kX Q (n.path.length+(ls++[l]).length):=by rw [List.length_append];exact hsw
 have hwM:kX M (n.path.length+(ls++[l]).length):=by rw [List.length_append];exact hnw
 cases is with
 |false=>
  have hlw:jH low (b,false)=low:=rfl;rw [hlw] at hR;by_cases c1:dp<(ls.length:Int)+1
  ·rw [if_pos (by omega)] at hR;subst hR;cases sq with
   |none=>refine aD ?_;simp [go_sem,fW,aC.a,aC.cs,h0,h2,h3,h4,h5,n0,n2,n3,n4,n5,n6,n7,n8,n9,na,b0,b1,b2,b3,b4,b5,b6,hsl,aA.cs,c1];simp [aX.of,aX.a,aX.cs]
   |some k=>refine aD ?_;simp [go_sem,fW,aC.a,aC.cs,h0,h2,h3,h4,h5,n0,n2,n3,n4,n5,n6,n7,n8,n9,na,b0,b1,b2,b3,b4,b5,b6,hsl,aA.cs,c1];rfl
  rw [if_neg (by omega)] at hR;refine aD ?_;simp [go_sem,fW,aC.a,aC.cs,h0,h2,h3,h4,h5,n0,n2,n3,n4,n5,n6,n7,n8,n9,na,b0,b1,b2,b3,b4,b5,b6,hsl,aA.cs,c1];refine aL rfl rfl rfl (args:=[.t (.sl (aM M)),.ptr 0 0,.ptr 2 0]) (f:=190) (by simp [go_sem]) (by simp [go_sem,hB]) (hov _ (by simp [aB,h0,n0,n8,b0,b1,aA.cs]) (by simp [aB,h2,n2,n9,b1,b2,b3])) ?_;by_cases c2:x.mostN w<M.length
  ·rw [if_pos c2] at hR;refine aD ?_;simp [go_sem,fW,aC.a,aC.cs,h0,h2,h3,h4,h5,n0,n2,n3,n4,n5,n6,n7,n8,n9,na,b0,b1,b2,b3,b4,b5,b6,hsl,aA.cs,c2];refine aL rfl rfl rfl (args:=[x.a,.t (.sl (aM M)),.i w]) (f:=193) (by simp [go_sem,aA.a]) (by simp [go_sem,hB]) ((hqs).spec _ _) ?_;cases sq with
   |none=>refine aD ?_;simp [go_sem,fW,aC.a,aC.cs,h0,h2,h3,h4,h5,n0,n2,n3,n4,n5,n6,n7,n8,n9,na,b0,b1,b2,b3,b4,b5,b6,hsl,aA.cs];refine Next.mk (f,ls++[l],low,some (ls.length+1),Q,ny,_,ny+2) ?_ (aH.slots (by simp [go_sem]) rfl rfl) (by simp only;omega);exact ⟨hR,by simp only [List.length_append,List.length_cons,List.length_nil];omega,.inl (by simp only [List.length_append,List.length_cons,List.length_nil];omega),by simp only;omega,hwQ,(by have:=hmf c2;simp only;omega),by simp [aB,h0,h2,h3,h4,n0,n2,n3,n4,n7,n8,n9,na,b0,b1,b2,b3,b4,b5,b6,aA.cs],by simp [aB,h0,h2,h3,h4,n0,n2,n3,n4,n7,n8,n9,na,b0,b1,b2,b3,b4,b5,b6,aA.cs],by simp [aB,h0,h2,h3,h4,n0,n2,n3,n4,n7,n8,n9,na,b0,b1,b2,b3,b4,b5,b6,aA.cs],by simp [aB,h0,h2,h3,h4,n0,n2,n3,n4,n7,n8,n9,na,b0,b1,b2,b3,b4,b5,b6,aA.cs],by simp [aB,h0,h2,h3,h4,n0,n2,n3,n4,n7,n8,n9,na,b0,b1,b2,b3,b4,b5,b6,aA.cs],by simp only;omega,by simp only;omega⟩
   |some k=>refine aD ?_;simp [go_sem,fW,aC.a,aC.cs,h0,h2,h3,h4,h5,n0,n2,n3,n4,n5,n6,n7,n8,n9,na,b0,b1,b2,b3,b4,b5,b6,hsl,aA.cs];refine Next.mk (f,ls++[l],low,some k,Q,ny,_,ny+2) ?_ (aH.slots (by simp [go_sem]) rfl rfl) (by simp only;omega);exact ⟨hR,by simp only [List.length_append,List.length_cons,List.length_nil];omega,.inl (by simp only [List.length_append,List.length_cons,List.length_nil];omega),by simp only;omega,hwQ,(by have:=hmf c2;simp only;omega),by simp [aB,h0,h2,h3,h4,n0,n2,n3,n4,n7,n8,n9,na,b0,b1,b2,b3,b4,b5,b6,aA.cs],by simp [aB,h0,h2,h3,h4,n0,n2,n3,n4,n7,n8,n9,na,b0,b1,b2,b3,b4,b5,b6,aA.cs],by simp [aB,h0,h2,h3,h4,n0,n2,n3,n4,n7,n8,n9,na,b0,b1,b2,b3,b4,b5,b6,aA.cs],by simp [aB,h0,h2,h3,h4,n0,n2,n3,n4,n7,n8,n9,na,b0,b1,b2,b3,b4,b5,b6,aA.cs],by simp [aB,h0,h2,h3,h4,n0,n2,n3,n4,n7,n8,n9,na,b0,b1,b2,b3,b4,b5,b6,aA.cs],by simp only;omega,by simp only;omega⟩
  ·rw [if_neg c2] at hR;refine aD ?_;simp [go_sem,fW,aC.a,aC.cs,h0,h2,h3,h4,h5,n0,n2,n3,n4,n5,n6,n7,n8,n9,na,b0,b1,b2,b3,b4,b5,b6,hsl,aA.cs,c2];refine Next.mk (f,ls++[l],low,sq,M,ny,_,ny+2) ?_ (aH.slots (by simp [go_sem]) rfl rfl) (by simp only;omega);exact ⟨hR,by simp only [List.length_append,List.length_cons,List.length_nil];omega,.inl (by simp only [List.length_append,List.length_cons,List.length_nil];omega),by simp only;omega,hwM,(hnf (by omega)),by simp [aB,h0,h2,h3,h4,n0,n2,n3,n4,n7,n8,n9,na,b0,b1,b2,b3,b4,b5,b6,aA.cs],by simp [aB,h0,h2,h3,h4,n0,n2,n3,n4,n7,n8,n9,na,b0,b1,b2,b3,b4,b5,b6,aA.cs],by simp [aB,h0,h2,h3,h4,n0,n2,n3,n4,n7,n8,n9,na,b0,b1,b2,b3,b4,b5,b6,aA.cs],by simp [aB,h0,h2,h3,h4,n0,n2,n3,n4,n7,n8,n9,na,b0,b1,b2,b3,b4,b5,b6,aA.cs],by simp [aB,h0,h2,h3,h4,n0,n2,n3,n4,n7,n8,n9,na,b0,b1,b2,b3,b4,b5,b6,aA.cs],by simp only;omega,by simp only;omega⟩
 |true=>
  have hlw:jH low (b,true)=min low b.cost:=rfl;rw [hlw] at hR;by_cases c1:dp<(ls.length:Int)+1
  ·rw [if_pos (by omega)] at hR;subst hR;cases sq with
   |none=>refine aD ?_;simp [go_sem,fW,aC.a,aC.cs,h0,h2,h3,h4,h5,n0,n2,n3,n4,n5,n6,n7,n8,n9,na,b0,b1,b2,b3,b4,b5,b6,hsl,aA.cs,c1];simp [aX.of,aX.a,aX.cs]
   |some k=>refine aD ?_;simp [go_sem,fW,aC.a,aC.cs,h0,h2,h3,h4,h5,n0,n2,n3,n4,n5,n6,n7,n8,n9,na,b0,b1,b2,b3,b4,b5,b6,hsl,aA.cs,c1];rfl
  rw [if_neg (by omega)] at hR;refine aD ?_;simp [go_sem,fW,aC.a,aC.cs,h0,h2,h3,h4,h5,n0,n2,n3,n4,n5,n6,n7,n8,n9,na,b0,b1,b2,b3,b4,b5,b6,hsl,aA.cs,c1];refine aL rfl rfl rfl (args:=[.t (.sl (aM M)),.ptr 0 0,.ptr 2 0]) (f:=190) (by simp [go_sem]) (by simp [go_sem,hB]) (hov _ (by simp [aB,h0,n0,n8,b0,b1,aA.cs]) (by simp [aB,h2,n2,n9,b1,b2,b3])) ?_;by_cases c2:x.mostN w<M.length
  ·rw [if_pos c2] at hR;refine aD ?_;simp [go_sem,fW,aC.a,aC.cs,h0,h2,h3,h4,h5,n0,n2,n3,n4,n5,n6,n7,n8,n9,na,b0,b1,b2,b3,b4,b5,b6,hsl,aA.cs,c2];refine aL rfl rfl rfl (args:=[x.a,.t (.sl (aM M)),.i w]) (f:=193) (by simp [go_sem,aA.a]) (by simp [go_sem,hB]) ((hqs).spec _ _) ?_;cases sq with
   |none=>refine aD ?_;simp [go_sem,fW,aC.a,aC.cs,h0,h2,h3,h4,h5,n0,n2,n3,n4,n5,n6,n7,n8,n9,na,b0,b1,b2,b3,b4,b5,b6,hsl,aA.cs];refine Next.mk (f,ls++[l],min low b.cost,some (ls.length+1),Q,ny,_,ny+2) ?_ (aH.slots (by simp [go_sem]) rfl rfl) (by simp only;omega);exact ⟨hR,by simp only [List.length_append,List.length_cons,List.length_nil];omega,.inl (by simp only [List.length_append,List.length_cons,List.length_nil];omega),by simp only;omega,hwQ,(by have:=hmf c2;simp only;omega),by simp [aB,h0,h2,h3,h4,n0,n2,n3,n4,n7,n8,n9,na,b0,b1,b2,b3,b4,b5,b6,aA.cs],by simp [aB,h0,h2,h3,h4,n0,n2,n3,n4,n7,n8,n9,na,b0,b1,b2,b3,b4,b5,b6,aA.cs],by simp [aB,h0,h2,h3,h4,n0,n2,n3,n4,n7,n8,n9,na,b0,b1,b2,b3,b4,b5,b6,aA.cs],by simp [aB,h0,h2,h3,h4,n0,n2,n3,n4,n7,n8,n9,na,b0,b1,b2,b3,b4,b5,b6,aA.cs],by simp [aB,h0,h2,h3,h4,n0,n2,n3,n4,n7,n8,n9,na,b0,b1,b2,b3,b4,b5,b6,aA.cs],by simp only;omega,by simp only;omega⟩
   |some k=>refine aD ?_;simp [go_sem,fW,aC.a,aC.cs,h0,h2,h3,h4,h5,n0,n2,n3,n4,n5,n6,n7,n8,n9,na,b0,b1,b2,b3,b4,b5,b6,hsl,aA.cs];refine Next.mk (f,ls++[l],min low b.cost,some k,Q,ny,_,ny+2) ?_ (aH.slots (by simp [go_sem]) rfl rfl) (by simp only;omega);exact ⟨hR,by simp only [List.length_append,List.length_cons,List.length_nil];omega,.inl (by simp only [List.length_append,List.length_cons,List.length_nil];omega),by simp only;omega,hwQ,(by have:=hmf c2;simp only;omega),by simp [aB,h0,h2,h3,h4,n0,n2,n3,n4,n7,n8,n9,na,b0,b1,b2,b3,b4,b5,b6,aA.cs],by simp [aB,h0,h2,h3,h4,n0,n2,n3,n4,n7,n8,n9,na,b0,b1,b2,b3,b4,b5,b6,aA.cs],by simp [aB,h0,h2,h3,h4,n0,n2,n3,n4,n7,n8,n9,na,b0,b1,b2,b3,b4,b5,b6,aA.cs],by simp [aB,h0,h2,h3,h4,n0,n2,n3,n4,n7,n8,n9,na,b0,b1,b2,b3,b4,b5,b6,aA.cs],by simp [aB,h0,h2,h3,h4,n0,n2,n3,n4,n7,n8,n9,na,b0,b1,b2,b3,b4,b5,b6,aA.cs],by simp only;omega,by simp only;omega⟩
  ·rw [if_neg c2] at hR;refine aD ?_;simp [go_sem,fW,aC.a,aC.cs,h0,h2,h3,h4,h5,n0,n2,n3,n4,n5,n6,n7,n8,n9,na,b0,b1,b2,b3,b4,b5,b6,hsl,aA.cs,c2];refine Next.mk (f,ls++[l],min low b.cost,sq,M,ny,_,ny+2) ?_ (aH.slots (by simp [go_sem]) rfl rfl) (by simp only;omega);exact ⟨hR,by simp only [List.length_append,List.length_cons,List.length_nil];omega,.inl (by simp only [List.length_append,List.length_cons,List.length_nil];omega),by simp only;omega,hwM,(hnf (by omega)),by simp [aB,h0,h2,h3,h4,n0,n2,n3,n4,n7,n8,n9,na,b0,b1,b2,b3,b4,b5,b6,aA.cs],by simp [aB,h0,h2,h3,h4,n0,n2,n3,n4,n7,n8,n9,na,b0,b1,b2,b3,b4,b5,b6,aA.cs],by simp [aB,h0,h2,h3,h4,n0,n2,n3,n4,n7,n8,n9,na,b0,b1,b2,b3,b4,b5,b6,aA.cs],by simp [aB,h0,h2,h3,h4,n0,n2,n3,n4,n7,n8,n9,na,b0,b1,b2,b3,b4,b5,b6,aA.cs],by simp [aB,h0,h2,h3,h4,n0,n2,n3,n4,n7,n8,n9,na,b0,b1,b2,b3,b4,b5,b6,aA.cs],by simp only;omega,by simp only;omega⟩
end Go.Proofs.YtnoifgjiipgpoaaGreatDoor
