/- Parts of the proof. -/
import Derived.Test.YtnoifgjiipgpoaaGreatDoorME
set_option linter.all false
set_option maxHeartbeats 4000000
namespace Go.Proofs.YtnoifgjiipgpoaaGreatDoor
open Go Go.Proofs.YtnoifgjiipgpoaaGreatDoor.R
set_option maxRecDepth 4000
set_option maxHeartbeats 1000000
theorem aC8 {p X G:Prop} (h1:p→X→G) (h2:¬p→X→G) (h3:X):G:=(Classical.em p).elim (fun h=>h1 h h3) (fun h=>h2 h h3)
theorem aFR {x y z:Nat} (h:z=x+y) (hz:z<9223372036854775808):IntKind.i64.wrap ((x:Int)+y)=(z:Int):=by rw [aO _ (by omega)];omega
theorem wQ {x y z:Nat} (h:z+y=x) (hx:x<9223372036854775808):IntKind.i64.wrap ((x:Int)-y)=(z:Int):=by rw [aO _ (by omega)];omega
theorem bHS {x z:Nat} (h:z+1=x) (hx:x<9223372036854775808):IntKind.i64.wrap ((x:Int)-1)=(z:Int):=by rw [aO _ (by omega)];omega
theorem bHR {x:Nat} (hx:x+1<9223372036854775808):IntKind.i64.wrap ((x:Int)+1)=((x+1:Nat):Int):=by rw [aO _ (by omega)];omega
theorem aPV {x:Nat} (hx:x<9223372036854775808):IntKind.u64.wrap (x:Int)=(x:Int):=u64 _ (by omega)
theorem aVP {s r:Nat} (h:s<r):s≤(s+r) / 2∧(s+r) / 2<r:=by omega
theorem bEO {a m b n p lo0 r0 s r c ul vl:Nat} (ha1:a≤lo0) (hr:r0≤m) (h3:m+r0≤n) (h4:n≤b+lo0) (hp:p+1=n) (hm:m=a+ul) (hb:b=m+vl) (i1:lo0≤s) (i3:r≤r0) (h5:s≤c) (h6:c<r):
  c-a<ul∧a+(c-a)=c∧p-c-m<vl∧m+(p-c-m)=p-c∧p-c+c=p∧c+1-1-a=c-a∧n-(c+1)-m=p-c-m:=by omega
theorem bEN {U V:List (List T)} {i e:Nat} (su:dF aP U) (sv:dF aP V)
  (h1:i=0∨V.length≤e∨∃x y,0<i∧U[i-1]? =some x∧V[e]? =some y∧aP x≤aP y)
  (h2:e=0∨U.length≤i∨∃x y,0<e∧U[i]? =some x∧V[e-1]? =some y∧aP y<aP x):
  aU aP (U++V)=aU aP (U.take i++V.take e)++aU aP (U.drop i++V.drop e):=by
 have hlast:∀{L:List (List T)} {k:Nat} {x:List T},dF aP L→0<k→L[k-1]? =some x→∀u∈L.take k,aP u≤aP x:=fun {L k x} hs hk hx u hu=>by
  obtain ⟨k,rfl⟩:∃k',k=k'+1:=⟨k-1,by omega⟩;obtain ⟨g1,g2⟩:=List.getElem?_eq_some_iff.1 hx;simp only [Nat.add_sub_cancel] at g1 g2;have h5:=vV hs (k+1);rw [List.take_succ_eq_append_getElem g1,g2] at hu h5;rw [dF,List.pairwise_append] at h5;rcases List.mem_append.1 hu with hu | hu
  ·exact h5.2.2 u hu x (by simp)
  ·rw [List.mem_singleton.1 hu];exact Int.le_refl _
 have hfirst:∀{L:List (List T)} {k:Nat} {x:List T},dF aP L→L[k]? =some x→∀u∈L.drop k,aP x≤aP u:=fun {L k x} hs hx u hu=>by
  obtain ⟨g1,g2⟩:=List.getElem?_eq_some_iff.1 hx;have h5:=vU hs k;rw [List.drop_eq_getElem_cons g1,g2] at hu h5;rw [dF,List.pairwise_cons] at h5;rcases List.mem_cons.1 hu with rfl | hu
  ·exact Int.le_refl _
  ·exact h5.1 u hu
 have:=aWH (κ:=aP) (u1:=U.take i) (u2:=U.drop i) (v1:=V.take e) (v2:=V.drop e) (by rw [List.take_append_drop];exact su) (by rw [List.take_append_drop];exact sv) ?_ ?_
 ·rw [List.take_append_drop,List.take_append_drop] at this;exact this
 ·intro u hu v hv;rcases h1 with rfl | h1 | ⟨x,y,h3,h4,h5,h6⟩
  ·simp at hu
  ·rw [List.drop_eq_nil_of_le h1] at hv;cases hv
  ·have:=hlast su h3 h4 u hu;have:=hfirst sv h5 v hv;omega
 ·intro v hv u hu;rcases h2 with rfl | h2 | ⟨x,y,h3,h4,h5,h6⟩
  ·simp at hv
  ·rw [List.drop_eq_nil_of_le h2] at hu;cases hu
  ·have:=hlast sv h3 h5 v hv;have:=hfirst su h4 u hu;omega
theorem aOY:∀(N:Nat) (pre U V post:List (List T)) (a m b:Nat),U.length+V.length≤N→aAL pre U V post a m b→∀{σ:Nat→aG} {nx q:Nat},q<nx→σ q= .arr 11 (pre++(U++(V++post)))→
  aT P vZ [.ref q,.i a,.i m,.i b,cU] σ nx (.tup []) (aB σ q (.arr 11 (pre++(aU aP (U++V)++post)))) nx:=by
 intro N
 induction N with
 |zero=>intro pre U V post a m b hN hH;have:=hH.u0;omega
 |succ N ih=>
 intro pre U V post a m b hN hH σ nx q hq hσq;by_cases hU1:U.length=1
 ·exact bEL pre U V post a m b hH hU1 hq hσq
 by_cases hV1:V.length=1
 ·exact bEM pre U V post a m b hH hU1 hV1 hq hσq
 have hH0:=hH;obtain ⟨ha,hm,hb,u0,v0,su,sv,kr,len,big⟩:=hH;simp only [List.length_append] at big;refine fO Tryz.func285 rfl rfl (by simp [Tryz.f285]) hq (by simp [dG]) (by simp [aE,aE.bndL]) fun hk B hB hnx hσ=>?_
 simp only [Tryz.f285] at hB ⊢;obtain ⟨S,hS⟩:∃S,S=pre++(U++(V++post)):=⟨_,rfl⟩;have hSl:S.length=a+(U.length+(V.length+post.length)):=by rw [hS];simp only [List.length_append];omega
 have hσS:aB σ q (.arr 11 S)=σ:=by rw [hS,←hσq];exact pU rfl
 have hSU:∀i (h:i<U.length),S[a+i]? =some U[i]:=fun i h=>by rw [hS,ha,List.getElem?_append_right (by omega),show pre.length+i-pre.length=i by omega,List.getElem?_append_left h,List.getElem?_eq_getElem h]
 have hSV:∀i (h:i<V.length),S[m+i]? =some V[i]:=fun i h=>by rw [hS,hm,ha,List.getElem?_append_right (by omega),show pre.length+U.length+i-pre.length=U.length+i by omega,List.getElem?_append_right (by omega),show U.length+i-U.length=i by omega,List.getElem?_append_left h,List.getElem?_eq_getElem h]
 have hlU:∀i (h:i<U.length),(U[i]).length=11:=fun i h=>len _ (by simp)
 have hlV:∀i (h:i<V.length),(V[i]).length=11:=fun i h=>len _ (by simp)
 have hb31:b<2147483648:=by omega
 have u2:2≤U.length:=by omega
 have v2:2≤V.length:=by omega
 have hpost:post.length<2147483648:=by omega
 have htot:a+(U.length+(V.length+post.length))<2147483648:=by omega
 clear big hk hnx hσ;obtain ⟨t,ht⟩:∃t,t=a+b:=⟨_,rfl⟩;obtain ⟨mid,hmid⟩:∃mid,mid=t / 2:=⟨_,rfl⟩;obtain ⟨n,hn⟩:∃n,n=mid+m:=⟨_,rfl⟩;obtain ⟨p,hp⟩:∃p,p+1=n:=⟨n-1,by omega⟩;have w1:IntKind.i64.wrap ((m:Int)-a)=(U.length:Int):=wQ (by omega) (by omega);have w2:IntKind.i64.wrap ((b:Int)-m)=(V.length:Int):=wQ (by omega) (by omega);have wA:IntKind.i64.wrap ((a:Int)+b)=(t:Int):=aFR ht (by omega);have wB:IntKind.u64.wrap (t:Int)=t:=aPV (by omega);have fd:Int.fdiv (t:Int) 2=(mid:Int):=by rw [x5,hmid]
 have wC:IntKind.i64.wrap (mid:Int)=mid:=wJ _ (by omega);have wN:IntKind.i64.wrap ((mid:Int)+m)=(n:Int):=aFR hn (by omega);have wP:IntKind.i64.wrap ((n:Int)-1)=(p:Int):=bHS hp (by omega);have hU1':¬(U.length:Int)=1:=by omega
 have hV1':¬(V.length:Int)=1:=by omega
 have ham:a<mid:=by omega
 have hmb:mid<b:=by omega
 have hN2:mid-a≤N∧b-mid≤N:=by omega
 obtain ⟨lo0,r0,hlo,hbnd,hcs⟩:∃lo0 r0:Nat,lo0≤r0∧(a≤lo0∧r0≤m∧m+r0≤n∧n≤b+lo0)∧((mid<m∧lo0+b=n∧r0=mid)∨(¬mid<m∧lo0=a∧r0=m)):=by
  by_cases cm:mid<m
  ·exact ⟨n-b,mid,by omega,by omega,.inl ⟨cm,by omega,rfl⟩⟩
  ·exact ⟨a,m,by omega,by omega,.inr ⟨cm,rfl,rfl⟩⟩
 obtain ⟨b1,b2,b3,b4⟩:=hbnd;have w5:mid<m→IntKind.i64.wrap ((n:Int)-b)=(lo0:Int):=fun cm=>wQ (by omega) (by omega)
 have hc1:mid<m→r0=mid:=fun cm=>by omega
 have hc2:¬mid<m→lo0=a∧r0=m:=fun cm=>by omega
 have hS0:lo0=a∨n-lo0=b:=by omega
 have hR0:r0=m∨n-r0=m:=by omega
 apply aC8 (p:=mid<m)
 ·intro cm key;have w5:=w5 cm;refine bG hB 100 ?_;simp [go_sem,w1,hU1',w2,hV1',wA,wB,fd,wC,wN,cm,w5,wP]
  exact bA (α:=Nat×Nat) (fun (s,r)=>lo0≤s∧s≤r∧r≤r0∧(s=lo0∨(a<s∧∃x,U[s-1-a]? =some x∧∃y,V[n-s-m]? =some y∧aP x≤aP y))∧(r=r0∨(m<n-r∧∃x,U[r-a]? =some x∧∃y,V[p-r-m]? =some y∧aP y<aP x)))
   (fun (s,r)=>⟨sl [(0,.ref q),(1,.i a),(2,.i m),(3,.i b),(4,cU),(18,.i mid),(19,.i n),(20,.i s),(21,.i r),(22,.i p)],aB σ q (.arr 11 S),nx⟩) (fun (s,r)=>r-s) (lo0,r0) ⟨Nat.le_refl _,hlo,Nat.le_refl _,.inl rfl,.inl rfl⟩ (aH.slots (by simp [go_sem,hc1 cm]) hσS rfl) key
 ·intro cm key;refine bG hB 100 ?_;simp [go_sem,w1,hU1',w2,hV1',wA,wB,fd,wC,wN,cm,wP]
  exact bA (α:=Nat×Nat) (fun (s,r)=>lo0≤s∧s≤r∧r≤r0∧(s=lo0∨(a<s∧∃x,U[s-1-a]? =some x∧∃y,V[n-s-m]? =some y∧aP x≤aP y))∧(r=r0∨(m<n-r∧∃x,U[r-a]? =some x∧∃y,V[p-r-m]? =some y∧aP y<aP x)))
   (fun (s,r)=>⟨sl [(0,.ref q),(1,.i a),(2,.i m),(3,.i b),(4,cU),(18,.i mid),(19,.i n),(20,.i s),(21,.i r),(22,.i p)],aB σ q (.arr 11 S),nx⟩) (fun (s,r)=>r-s) (lo0,r0) ⟨Nat.le_refl _,hlo,Nat.le_refl _,.inl rfl,.inl rfl⟩ (aH.slots (by simp [go_sem,hc2 cm]) hσS rfl) key
 clear w1 w2 wA wB fd wC wN wP w5 hc1 hc2 hU1' hV1' hcs;rintro ⟨s,r⟩ ⟨i1,i2,i3,i4,i5⟩;by_cases c:s<r
 ·obtain ⟨t2,ht2⟩:∃t,t=s+r:=⟨_,rfl⟩;obtain ⟨c',hc'⟩:∃c',c'=t2 / 2:=⟨_,rfl⟩;obtain ⟨c1,c2⟩:=aVP c;rw [←ht2,←hc'] at c1 c2;obtain ⟨j1,j2,j3,j4,j5,j6,j7⟩:=bEO b1 b2 b3 b4 hp hm hb i1 i3 c1 c2;have hcb:c'<2147483648:=by omega
  have hrb:t2<4294967296:=by omega
  have hpb:p<4294967296:=by omega
  have wA2:IntKind.i64.wrap ((s:Int)+r)=(t2:Int):=aFR ht2 (by omega);have wB2:IntKind.u64.wrap (t2:Int)=t2:=aPV (by omega);have fd2:Int.fdiv (t2:Int) 2=(c':Int):=by rw [x5,hc']
  have wC2:IntKind.i64.wrap (c':Int)=c':=wJ _ (by omega);have wE2:IntKind.i64.wrap ((c':Int)+1)=((c'+1:Nat):Int):=bHR (by omega);obtain ⟨d',hd'⟩:∃d',d'=p-c':=⟨_,rfl⟩;have wD2:IntKind.i64.wrap ((p:Int)-c')=(d':Int):=wQ (by rw [hd'];exact j5) (by omega);have gx:=hSU (c'-a) j1;have gy:S[d']? =some (V[p-c'-m]'j3):=by have:=hSV (p-c'-m) j3;rw [j4] at this;rw [hd'];exact this
  have ux:U[c'-a]? =some U[c'-a]:=List.getElem?_eq_getElem j1;have vy:V[p-c'-m]? =some V[p-c'-m]:=List.getElem?_eq_getElem j3;rw [j2] at gx;have hKx:KR U[c'-a]:=kr _ (by simp);have hKy:KR V[p-c'-m]:=kr _ (by simp);generalize U[c'-a]'j1=x at *;generalize V[p-c'-m]'j3=y at *;obtain ⟨x1,x2⟩:=sO gx;obtain ⟨y1,y2⟩:=sO gy;have hxl:=hKx.len;have hyl:=hKy.len;have k1:=kO hyl;have k2:=kO hxl;have d1:c'*11 / 11=c':=by omega
  have d2:c'*11 % 11=0:=by omega
  have d3:d'*11 / 11=d':=by omega
  have d4:d'*11 % 11=0:=by omega
  have hcm:=yI y x hKy hKx;have hneg:=uQ (aP y) (aP x);have n1:lo0≤c'+1:=by omega
  have n2:c'≤r0:=by omega
  have n3:a<c'+1:=by omega
  have n4:m<n-c':=by omega
  have n5:r-(c'+1)<r-s:=by omega
  have n6:c'-s<r-s:=by omega
  refine bG hB 60 ?_;simp [go_sem,c,wA2,wB2,fd2,wC2];refine bK [] rfl (by rw [hB];kernel_rfl) ?_;refine bG hB 100 ?_;simp [go_sem,wD2,x1,x2,y1,y2,hxl,hyl,k1,k2,d1,d2,d3,d4];refine bQ rfl rfl rfl (args:=[.agg (y.map .t),.agg (x.map .t)]) (f:=226) (by simp [go_sem]) (hcm) ?_;by_cases c3:aP y<aP x
  ·refine bG hB 100 ?_;simp [go_sem,hneg,c3];exact Next.mk (s,c') ⟨i1,c1,n2,i4,.inr ⟨n4,x,ux,y,vy,c3⟩⟩ (aH.slots (by simp [go_sem]) rfl rfl) n6
  ·refine bG hB 100 ?_;simp [go_sem,hneg,c3,wE2];exact Next.mk (c'+1,r) ⟨n1,c2,i3,.inr ⟨n3,x,by simp only [j6];exact ux,y,by simp only [j7];exact vy,Int.not_lt.1 c3⟩,i5⟩ (aH.slots (by simp [go_sem]) rfl rfl) n5
 have hsr:s=r:=by omega
 subst hsr;clear c i2;obtain ⟨e,he⟩:∃e,e+s=n:=⟨n-s,by omega⟩;have hme:m≤e∧e≤b:=by omega
 have hsm:a≤s∧s≤m:=by omega
 have hnb:n<4294967296:=by omega
 have wS:IntKind.i64.wrap ((n:Int)-s)=(e:Int):=wQ he (by omega);have hmid2:mid=s+(e-m):=by omega
 have hre:n-s-m=e-m:=by omega
 have hrp:p-s-m=e-m-1:=by omega
 have hcut:aU aP (U++V)=aU aP (U.take (s-a)++V.take (e-m))++aU aP (U.drop (s-a)++V.drop (e-m)):=by
  refine bEN su sv ?_ ?_
  ·rcases i4 with i4 | ⟨h1,x,h2,y,h3,h4⟩
   ·rcases hS0 with h | h
    ·exact .inl (by omega)
    ·exact .inr (.inl (by omega))
   ·rw [hre] at h3;refine .inr (.inr ⟨x,y,by omega,?_,h3,h4⟩);have:s-a-1=s-1-a:=by omega
    rw [this];exact h2
  ·rcases i5 with i5 | ⟨h1,x,h2,y,h3,h4⟩
   ·rcases hR0 with h | h
    ·exact .inr (.inl (by omega))
    ·exact .inl (by omega)
   ·rw [hrp] at h3;exact .inr (.inr ⟨x,y,by omega,h2,h3,h4⟩)
 clear i4 i5 hS0 hR0 hSU hSV hlU hlV hre hrp;obtain ⟨U1,hU1d⟩:∃U1,U1=U.take (s-a):=⟨_,rfl⟩;obtain ⟨U2,hU2d⟩:∃U2,U2=U.drop (s-a):=⟨_,rfl⟩;obtain ⟨V1,hV1d⟩:∃V1,V1=V.take (e-m):=⟨_,rfl⟩;obtain ⟨V2,hV2d⟩:∃V2,V2=V.drop (e-m):=⟨_,rfl⟩;rw [←hU1d,←hU2d,←hV1d,←hV2d] at hcut;have lU1:U1.length=s-a:=by rw [hU1d,List.length_take];omega
 have lU2:U2.length=m-s:=by rw [hU2d,List.length_drop];omega
 have lV1:V1.length=e-m:=by rw [hV1d,List.length_take];omega
 have lV2:V2.length=b-e:=by rw [hV2d,List.length_drop];omega
 have hUU:U1++U2=U:=by rw [hU1d,hU2d];exact List.take_append_drop _ _
 have hVV:V1++V2=V:=by rw [hV1d,hV2d];exact List.take_append_drop _ _
 have sU1:dF aP U1:=by rw [hU1d];exact vV su _
 have sU2:dF aP U2:=by rw [hU2d];exact vU su _
 have sV1:dF aP V1:=by rw [hV1d];exact vV sv _
 have sV2:dF aP V2:=by rw [hV2d];exact vU sv _
 have hkr:∀x∈U1++V1++(U2++V2),KR x:=fun x hx=>kr x (by
  rw [←hUU,←hVV]
  simp only [List.mem_append] at hx ⊢
  rcases hx with (h | h) | h | h
  ·exact .inl (.inl h)
  ·exact .inr (.inl h)
  ·exact .inl (.inr h)
  ·exact .inr (.inr h))
 have hlen:∀x∈pre++(U1++(U2++(V1++(V2++post)))),x.length=11:=fun x hx=>len x (by
  rw [←hUU,←hVV]
  simpa using hx)
 have hSS:S=pre++(U1++(U2++(V1++(V2++post)))):=by rw [hS,←hUU,←hVV];simp
 obtain ⟨L1,hL1⟩:∃L1,L1=pre++(U1++(V1++(U2++(V2++post)))):=⟨_,rfl⟩;obtain ⟨L2,hL2⟩:∃L2,L2=pre++(aU aP (U1++V1)++(U2++(V2++post))):=⟨_,rfl⟩;have hL3:pre++(aU aP (U++V)++post)=pre++(aU aP (U1++V1)++(aU aP (U2++V2)++post)):=by rw [hcut,List.append_assoc]
 rw [hL3];have lpU:(pre++U1).length=s:=by rw [List.length_append,lU1,←ha];omega
 have hrot:=bBQ (pre++U1) U2 V1 (V2++post)
 have hsk:¬(s<m∧m<e)→S=L1:=fun h=>by
  rw [hSS,hL1];by_cases h1:s<m
  ·have:V1=[]:=List.eq_nil_of_length_eq_zero (by omega);rw [this];simp
  ·have:U2=[]:=List.eq_nil_of_length_eq_zero (by omega);rw [this];simp
 apply aC8 (p:=s<m∧m<e)
 ·rintro ⟨c1,c2⟩;have hrot:=hrot (by rw [lU2];omega) (by rw [lV1];omega) (by simpa using hlen) (by simp only [List.length_append,lU1,lU2,lV1,lV2,←ha];omega) (σ:=aB σ q (.arr 11 S)) hq (by simp [aB,hSS]);rw [nP,lpU,lU2,lV1,show s+(m-s)=m by omega,show m+(e-m)=e by omega] at hrot;intro key;refine bG hB 60 ?_;simp [go_sem,wS,c1,c2];refine aL rfl rfl rfl (args:=[.ref q,.i s,.i m,.i e,cU]) (f:=293) (by simp [go_sem]) (by simp [go_sem,hB]) hrot ?_;refine bG hB 1 ?_;simp [go_sem];refine nX (t:=⟨sl [(0,.ref q),(1,.i a),(2,.i m),(3,.i b),(4,cU),(18,.i mid),(20,.i s),(24,.i e)],aB σ q (.arr 11 L1),nx⟩) (aH.slots (by simp [go_sem]) (by rw [hL1]) rfl) ?_;exact key
 ·intro c1;have hsk:=hsk c1;by_cases c2:s<m
  ·have c3:¬m<e:=fun h=>c1 ⟨c2,h⟩
   intro key;refine bG hB 33 ?_;simp [go_sem,wS,c2,c3];refine nX (t:=⟨sl [(0,.ref q),(1,.i a),(2,.i m),(3,.i b),(4,cU),(18,.i mid),(20,.i s),(24,.i e)],aB σ q (.arr 11 L1),nx⟩) (aH.slots (by simp [go_sem]) (by rw [hsk]) rfl) ?_;exact key
  ·intro key;refine bG hB 30 ?_;simp [go_sem,wS,c2];refine nX (t:=⟨sl [(0,.ref q),(1,.i a),(2,.i m),(3,.i b),(4,cU),(18,.i mid),(20,.i s),(24,.i e)],aB σ q (.arr 11 L1),nx⟩) (aH.slots (by simp [go_sem]) (by rw [hsk]) rfl) ?_;exact key
 clear hrot hsk
 have hleft:a<s→s<mid→aT P vZ [.ref q,.i a,.i s,.i mid,cU] (aB σ q (.arr 11 L1)) nx (.tup []) (aB σ q (.arr 11 L2)) nx:=fun c1 c2=>by
  have:=ih pre U1 V1 (U2++(V2++post)) a s mid (by omega) ⟨ha,by omega,by omega,by omega,by omega,sU1,sV1,fun x hx=>hkr x (List.mem_append_left _ hx),fun x hx=>hlen x (by
   simp only [List.mem_append] at hx ⊢
   rcases hx with h | h | h | h | h | h
   ·exact .inl h
   ·exact .inr (.inl h)
   ·exact .inr (.inr (.inr (.inl h)))
   ·exact .inr (.inr (.inl h))
   ·exact .inr (.inr (.inr (.inr (.inl h))))
   ·exact .inr (.inr (.inr (.inr (.inr h))))),by simp only [List.length_append,lU1,lU2,lV1,lV2,←ha];omega⟩ (σ:=aB σ q (.arr 11 L1)) (nx:=nx) hq (by simp [aB,hL1])
  rw [nP,←hL2] at this;exact this
 have hleft0:¬(a<s∧s<mid)→L1=L2:=fun h=>by
  have:aU aP (U1++V1)=U1++V1:=by
   by_cases h1:a<s
   ·have:V1=[]:=List.eq_nil_of_length_eq_zero (by omega);rw [this,List.append_nil];exact pN sU1
   ·have:U1=[]:=List.eq_nil_of_length_eq_zero (by omega);rw [this,List.nil_append];exact pN sV1
  rw [hL1,hL2,this,List.append_assoc]
 have lp2:(pre++aU aP (U1++V1)).length=mid:=by rw [List.length_append,mO,List.length_append,lU1,lV1,←ha];omega
 have hright:mid<e→e<b→aT P vZ [.ref q,.i mid,.i e,.i b,cU] (aB σ q (.arr 11 L2)) nx (.tup []) (aB σ q (.arr 11 (pre++(aU aP (U1++V1)++(aU aP (U2++V2)++post))))) nx:=fun c1 c2=>by
  have:=ih (pre++aU aP (U1++V1)) U2 V2 post mid e b (by omega) ⟨lp2.symm,by omega,by omega,by omega,by omega,sU2,sV2,fun x hx=>hkr x (List.mem_append_right _ hx),fun x hx=>hlen x (by
   simp only [List.mem_append,pM] at hx ⊢
   rcases hx with (h | h | h) | h | h | h
   ·exact .inl h
   ·exact .inr (.inl h)
   ·exact .inr (.inr (.inr (.inl h)))
   ·exact .inr (.inr (.inl h))
   ·exact .inr (.inr (.inr (.inr (.inl h))))
   ·exact .inr (.inr (.inr (.inr (.inr h))))),by rw [List.length_append,lp2];simp only [List.length_append,lU2,lV2];omega⟩ (σ:=aB σ q (.arr 11 L2)) (nx:=nx) hq (by simp [aB,hL2])
  rw [nP,List.append_assoc] at this;exact this
 have hright0:¬(mid<e∧e<b)→L2=pre++(aU aP (U1++V1)++(aU aP (U2++V2)++post)):=fun h=>by
  have:aU aP (U2++V2)=U2++V2:=by
   by_cases h1:mid<e
   ·have:V2=[]:=List.eq_nil_of_length_eq_zero (by omega);rw [this,List.append_nil];exact pN sU2
   ·have:U2=[]:=List.eq_nil_of_length_eq_zero (by omega);rw [this,List.nil_append];exact pN sV2
  rw [hL2,this,List.append_assoc]
 clear ih;apply aC8 (p:=a<s∧s<mid)
 ·rintro ⟨c1,c2⟩;have hleft:=hleft c1 c2;intro key;refine bG hB 60 ?_;simp [go_sem,c1,c2];refine aL rfl rfl rfl (args:=[.ref q,.i a,.i s,.i mid,cU]) (f:=285) (by simp [go_sem]) (by simp [go_sem,hB]) hleft ?_;refine bG hB 1 ?_;simp [go_sem];refine nX (t:=⟨sl [(0,.ref q),(3,.i b),(4,cU),(18,.i mid),(24,.i e)],aB σ q (.arr 11 L2),nx⟩) (aH.slots (by simp [go_sem]) rfl rfl) ?_;exact key
 ·intro c1;have hleft0:=hleft0 c1;by_cases c2:a<s
  ·have c3:¬s<mid:=fun h=>c1 ⟨c2,h⟩
   intro key;refine bG hB 17 ?_;simp [go_sem,c2,c3];refine nX (t:=⟨sl [(0,.ref q),(3,.i b),(4,cU),(18,.i mid),(24,.i e)],aB σ q (.arr 11 L2),nx⟩) (aH.slots (by simp [go_sem]) (by rw [hleft0]) rfl) ?_;exact key
  ·intro key;refine bG hB 14 ?_;simp [go_sem,c2];refine nX (t:=⟨sl [(0,.ref q),(3,.i b),(4,cU),(18,.i mid),(24,.i e)],aB σ q (.arr 11 L2),nx⟩) (aH.slots (by simp [go_sem]) (by rw [hleft0]) rfl) ?_;exact key
 by_cases c1:mid<e
 ·by_cases c2:e<b
  ·have hright:=hright c1 c2;refine bG hB 60 ?_;simp [go_sem,c1,c2];refine aL rfl rfl rfl (args:=[.ref q,.i mid,.i e,.i b,cU]) (f:=285) (by simp [go_sem]) (by simp [go_sem,hB]) hright ?_;refine bG hB 100 ?_;simp [go_sem];exact fun j h1 h2 h3=>absurd h3 h2
  ·have hright0:=hright0 fun h=>c2 h.2
   refine bG hB 60 ?_;simp [go_sem,c1,c2];rw [hright0];exact ⟨rfl,fun j h1 h2 h3=>absurd h3 h2⟩
 ·have hright0:=hright0 fun h=>c1 h.1
  refine bG hB 60 ?_;simp [go_sem,c1];rw [hright0];exact ⟨rfl,fun j h1 h2 h3=>absurd h3 h2⟩
theorem aGN {α:Type} {κ:α→Int} {bs t:Nat} {l:List α} (h1:bs*t≤l.length) (h2:l.length<bs*t+bs):eY κ bs l=dM κ bs t l++aU κ (l.drop (bs*t)):=by have:l.length / bs=t:=Nat.div_eq_of_lt_le (by rw [Nat.mul_comm];exact h1) (by rw [Nat.succ_mul,Nat.mul_comm];exact h2);rw [eY,this]
theorem bD2 (l:List (List T)) (hK:∀e∈l,KR e) (hbig:l.length<2^31) {σ:Nat→aG} {nx q:Nat} (hq:q<nx) (hσq:σ q= .arr 11 l):
  aT P 256 [.ref q,.i l.length,cU] σ nx (.tup []) (aB σ q (.arr 11 (aU aP l))) nx:=by
 refine fO Tryz.func256 rfl rfl (by simp [Tryz.f256]) hq (by simp [dG]) (by simp [aE,aE.bndL]) fun hk B hB hnx hσ=>?_
 simp only [Tryz.f256] at hB ⊢;obtain ⟨n,hn⟩:∃n,n=l.length:=⟨_,rfl⟩;rw [←hn] at hbig ⊢;have hL:∀e∈l,e.length=11:=fun e he=>(hK e he).len
 have hKi:∀(m:List (List T)),(∀e∈m,e∈l)→∀e∈aU aP m,KR e:=fun m hm e he=>hK e (hm e (pM.1 he))
 have hKb:∀(bs t:Nat) (m:List (List T)),(∀e∈m,e∈l)→∀e∈dM aP bs t m,KR e:=fun bs t=>by
  induction t with
  |zero=>intro m _ e he;cases he
  |succ t ih=>
   intro m hm e he;rcases List.mem_append.1 he with he | he
   ·exact hKi _ (fun x hx=>hm x (List.mem_of_mem_take hx)) e he
   ·exact ih _ (fun x hx=>hm x (List.mem_of_mem_drop hx)) e he
 have hKa:∀(bs:Nat) (m:List (List T)),(∀e∈m,e∈l)→∀e∈eY aP bs m,KR e:=fun bs m hm e he=>by
  rcases List.mem_append.1 he with he | he
  ·exact hKb _ _ m hm e he
  ·exact hKi _ (fun x hx=>hm x (List.mem_of_mem_drop hx)) e he
 have hσ0:aB σ q (.arr 11 (dM aP 20 0 l++l.drop (20*0)))=σ:=by rw [show dM aP 20 0 l++l.drop (20*0)=l by simp [dM],←hσq];exact pU rfl
 refine aD ?_;simp [go_sem];refine bA (α:=Nat) (fun t=>20*t≤n) (fun t=>⟨sl [(0,.ref q),(1,.i n),(2,cU),(6,.i 20),(7,.i (20*t:Nat)),(8,.i (20*t+20:Nat))],aB σ q (.arr 11 (dM aP 20 t l++l.drop (20*t))),nx⟩) (fun t=>n-t) 0 (Nat.zero_le _) (aH.slots (by simp [go_sem]) hσ0 rfl) ?_;intro t ht;have hbl:(dM aP 20 t l).length=20*t:=xO 20 t l (by omega);by_cases c1:20*t+20≤n
 ·have c1':20*(t:Int)+20≤n:=by omega
  have hml:((l.drop (20*t)).take 20).length=20:=by rw [List.length_take,List.length_drop];omega
  have hd:l.drop (20*t)=(l.drop (20*t)).take 20++l.drop (20*t+20):=by rw [←List.drop_drop,List.take_append_drop]
  have hsp:=aJ4 (dM aP 20 t l) ((l.drop (20*t)).take 20) (l.drop (20*t+20)) (fun e he=>hK e (List.mem_of_mem_drop (List.mem_of_mem_take he))) (fun e he=>by
   rcases List.mem_append.1 he with he | he
   ·exact (hKb 20 t l (fun _ h=>h) e he).len
   ·rw [←hd] at he
    exact hL e (List.mem_of_mem_drop he)) (by rw [←hd,List.length_append,hbl,List.length_drop];omega) (σ:=aB σ q (.arr 11 (dM aP 20 t l++l.drop (20*t)))) (nx:=nx) (q:=q) hq (by simp only [aB,if_true];rw [←hd])
  rw [hml,hbl,nP,←List.append_assoc,←aA5] at hsp;have w1:IntKind.i64.wrap (20*(t:Int)+20+20)=20*(t+1:Nat)+20:=by rw [aO _ (by omega)];omega
  refine aI ?_;simp [go_sem,c1'];refine aL rfl rfl rfl (args:=[.ref q,.i (20*t:Nat),.i (20*t+20:Nat),cU]) (f:=284) (by simp [go_sem]) (by simp [go_sem,hB]) hsp ?_;refine aD ?_;simp [go_sem,w1];exact Next.mk (t+1) (by omega) (aH.slots (by simp [go_sem];omega) rfl rfl) (by omega)
 have c1':¬20*(t:Int)+20≤n:=by omega
 have hsp:=aJ4 (dM aP 20 t l) (l.drop (20*t)) [] (fun e he=>hK e (List.mem_of_mem_drop he)) (fun e he=>by
  rw [List.append_nil] at he
  rcases List.mem_append.1 he with he | he
  ·exact (hKb 20 t l (fun _ h=>h) e he).len
  ·exact hL e (List.mem_of_mem_drop he)) (by rw [List.append_nil,List.length_append,hbl,List.length_drop];omega) (σ:=aB σ q (.arr 11 (dM aP 20 t l++l.drop (20*t)))) (nx:=nx) (q:=q) hq (by simp [aB])
 have hnn:20*t+(l.drop (20*t)).length=n:=by rw [List.length_drop];omega
 rw [hbl,hnn,nP,List.append_nil,←aGN (by omega) (by omega)] at hsp;refine aI ?_;simp [go_sem,c1'];refine aL rfl rfl rfl (args:=[.ref q,.i (20*t:Nat),.i n,cU]) (f:=284) (by simp [go_sem]) (by simp [go_sem,hB]) hsp ?_;clear hsp hnn hbl c1 c1' ht;refine aD ?_;simp [go_sem];refine bA (α:=Nat) (fun bs=>20≤bs∧bs<2^32) (fun bs=>⟨sl [(0,.ref q),(1,.i n),(2,cU),(6,.i bs)],aB σ q (.arr 11 (eY aP bs l)),nx⟩) (fun bs=>n-bs) 20 ⟨by omega,by omega⟩ (aH.slots (by simp [go_sem]) rfl rfl) ?_;rintro bs ⟨g1,g2⟩;by_cases c2:bs<n
 rotate_left
 ·have e:eY aP bs l=aU aP l:=aGO (by omega) (by omega);refine aI ?_;simp [go_sem,c2];rw [e];exact ⟨rfl,fun j h1 h2 h3=>absurd h3 h2⟩
 obtain ⟨b2,hb2⟩:∃b2,b2=2*bs:=⟨_,rfl⟩;have w1:IntKind.i64.wrap (2*(bs:Int))=b2:=by rw [aO _ (by omega)];omega
 have w1':IntKind.i64.wrap ((bs:Int)*2)=b2:=by rw [aO _ (by omega)];omega
 refine aI ?_;simp [go_sem,c2,w1];refine bA (α:=Nat×Nat) (fun (s,a)=>a=b2*s∧a≤n) (fun (s,a)=>⟨sl [(0,.ref q),(1,.i n),(2,cU),(6,.i bs),(7,.i a),(8,.i (a+b2:Nat))],aB σ q (.arr 11 (dM aP b2 s l++eY aP bs (l.drop a))),nx⟩) (fun (s,a)=>n-a) (0,0) ⟨by simp,Nat.zero_le _⟩ (aH.slots (by simp [go_sem]) (by simp [dM]) rfl) ?_;rintro ⟨s,a⟩ ⟨ha,han⟩;have hbl:(dM aP b2 s l).length=a:=by rw [xO b2 s l (by omega),ha]
 have hpart:∀e∈dM aP b2 s l,KR e:=hKb b2 s l fun _ h=>h
 have hdl:(l.drop a).length=n-a:=by rw [List.length_drop];omega
 have w2:IntKind.i64.wrap ((a:Int)+bs)=((a+bs:Nat):Int):=by rw [aO _ (by omega)];omega
 by_cases c3:a+b2≤n
 ·have c3':(a:Int)+b2≤n:=by omega
  have e1:eY aP bs (l.drop a)=aU aP ((l.drop a).take bs)++(aU aP (((l.drop a).drop bs).take bs)++eY aP bs (l.drop (a+b2))):=by rw [xD (by omega) (by omega),xD (by omega) (by rw [List.length_drop];omega)];simp only [List.drop_drop];rw [show a+bs+bs=a+b2 by omega]
  have lu:(aU aP ((l.drop a).take bs)).length=bs:=by rw [mO,List.length_take];omega
  have lv:(aU aP (((l.drop a).drop bs).take bs)).length=bs:=by rw [mO,List.length_take,List.length_drop];omega
  have e2:aU aP (aU aP ((l.drop a).take bs)++aU aP (((l.drop a).drop bs).take bs))=aU aP ((l.drop a).take b2):=by rw [aJ7];congr 1;rw [show b2=bs+bs by omega,List.take_add]
  have hsp:=aOY (bs+bs) (dM aP b2 s l) (aU aP ((l.drop a).take bs)) (aU aP (((l.drop a).drop bs).take bs)) (eY aP bs (l.drop (a+b2))) a (a+bs) (a+b2) (by omega)
   ⟨hbl.symm,by omega,by omega,by omega,by omega,(gI _).srt,(gI _).srt,fun e he=>by
    rcases List.mem_append.1 he with he | he
    ·exact hKi _ (fun x hx=>List.mem_of_mem_drop (List.mem_of_mem_take hx)) e he
    ·exact hKi _ (fun x hx=>List.mem_of_mem_drop (List.mem_of_mem_drop (List.mem_of_mem_take hx))) e he,fun e he=>by
    rw [←e1] at he
    rcases List.mem_append.1 he with he | he
    ·exact (hpart e he).len
    ·exact (hKa bs _ (fun x hx=>List.mem_of_mem_drop hx) e he).len,by rw [←e1,List.length_append,hbl,aGP,hdl];omega⟩ (σ:=aB σ q (.arr 11 (dM aP b2 s l++eY aP bs (l.drop a)))) (nx:=nx) (q:=q) hq (by simp only [aB,if_true];rw [e1])
  rw [nP,e2,←List.append_assoc] at hsp;have e3:dM aP b2 s l++aU aP ((l.drop a).take b2)=dM aP b2 (s+1) l:=by rw [aA5,ha]
  rw [e3] at hsp;have w3:IntKind.i64.wrap ((a:Int)+b2+b2)=(a:Int)+b2+b2:=aO _ (by omega);refine aI ?_;simp [go_sem,c3',w2];refine aL rfl rfl rfl (args:=[.ref q,.i a,.i (a+bs:Nat),.i (a+b2:Nat),cU]) (f:=285) (by simp [go_sem]) (by simp [go_sem,hB]) hsp ?_;refine aD ?_;simp [go_sem,w1,w3];exact Next.mk (s+1,a+b2) ⟨by simp only [ha,Nat.mul_succ],by simp only;omega⟩ (aH.slots (by simp [go_sem]) rfl rfl) (by simp only;omega)
 have c3':¬(a:Int)+b2≤n:=by omega
 have hfin:eY aP b2 l=dM aP b2 s l++aU aP (l.drop a):=by rw [aGN (t:=s) (by omega) (by omega),ha]
 by_cases c4:a+bs<n
 ·have c4':(a:Int)+bs<n:=by omega
  have e1:eY aP bs (l.drop a)=aU aP ((l.drop a).take bs)++(aU aP ((l.drop a).drop bs)++[]):=by rw [xD (by omega) (by omega),aAU (by rw [List.length_drop];omega),List.append_nil]
  have lu:(aU aP ((l.drop a).take bs)).length=bs:=by rw [mO,List.length_take];omega
  have lv:(aU aP ((l.drop a).drop bs)).length=n-a-bs:=by rw [mO,List.length_drop];omega
  have e2:aU aP (aU aP ((l.drop a).take bs)++aU aP ((l.drop a).drop bs))=aU aP (l.drop a):=by rw [aJ7,List.take_append_drop]
  have hsp:=aOY (bs+(n-a-bs)) (dM aP b2 s l) (aU aP ((l.drop a).take bs)) (aU aP ((l.drop a).drop bs)) [] a (a+bs) n (by omega)
   ⟨hbl.symm,by omega,by omega,by omega,by omega,(gI _).srt,(gI _).srt,fun e he=>by
    rcases List.mem_append.1 he with he | he
    ·exact hKi _ (fun x hx=>List.mem_of_mem_drop (List.mem_of_mem_take hx)) e he
    ·exact hKi _ (fun x hx=>List.mem_of_mem_drop (List.mem_of_mem_drop hx)) e he,fun e he=>by
    rw [←e1] at he
    rcases List.mem_append.1 he with he | he
    ·exact (hpart e he).len
    ·exact (hKa bs _ (fun x hx=>List.mem_of_mem_drop hx) e he).len,by rw [←e1,List.length_append,hbl,aGP,hdl];omega⟩ (σ:=aB σ q (.arr 11 (dM aP b2 s l++eY aP bs (l.drop a)))) (nx:=nx) (q:=q) hq (by simp only [aB,if_true];rw [e1])
  rw [nP,e2,List.append_nil,←hfin] at hsp;refine aI ?_;simp [go_sem,c3',w2,c4'];refine aL rfl rfl rfl (args:=[.ref q,.i a,.i (a+bs:Nat),.i n,cU]) (f:=285) (by simp [go_sem]) (by simp [go_sem,hB]) hsp ?_;refine aD ?_;simp [go_sem,w1'];exact Next.mk b2 ⟨by omega,by omega⟩ (aH.slots (by simp [go_sem]) rfl rfl) (by omega)
 ·have c4':¬(a:Int)+bs<n:=by omega
  have e1:dM aP b2 s l++eY aP bs (l.drop a)=eY aP b2 l:=by rw [hfin,aGO (bs:=bs) (by omega) (by omega)]
  refine aI ?_;simp [go_sem,c3',w2,c4',w1'];exact Next.mk b2 ⟨by omega,by omega⟩ (aH.slots (by simp [go_sem]) (by rw [e1]) rfl) (by omega)
theorem bDO (l:List (List T)) (hK:∀e∈l,KR e) (hbig:l.length<2^31) {σ:Nat→aG} {nx q:Nat} (hq:q<nx) (hσq:σ q= .arr 11 l):
  aT P 225 [.ref q,cU] σ nx (.tup []) (aB σ q (.arr 11 (aU aP l))) nx:=by
 have hs:=bD2 l hK hbig hq hσq;refine bN.spec (cA Tryz.func225 rfl rfl (by simp [Tryz.f225]) fun B hB hnx hσ=>?_);simp only [Tryz.f225] at hB ⊢;refine aD ?_;simp [go_sem,hσq];refine aL rfl rfl rfl (args:=[.ref q,.i l.length,cU]) (f:=256) (by simp [go_sem]) (by simp [go_sem,hB]) hs ?_;refine aD ?_;simp [go_sem]
def lG (s:aF):List aC→Option Nat
 |[]=>none
 |m :: l=>if m.s=s then some 0 else (lG s l).map (·+1)
def eZ (out:List aC) (n:aC):List aC:=match lG n.s out with
 |none=>out++[n]
 |some i=>if n.cost<(out.getD i n).cost then out.set i n else out
def oL (l:List aC):List aC:=l.foldl eZ []
def aF.v (s:aF):Value:=.agg #[.int .i64 s.spot,.int .i64 s.car,.int .i64 s.time,.int .i64 s.load,.int .i64 s.first,.int .u64 s.must,.int .u64 s.can,.int .u64 s.on]
theorem aF.v_inj {a b:aF} (h:a.v=b.v):a=b:=by simp only [aF.v,Value.agg.injEq,Array.mk.injEq,List.cons.injEq,Value.int.injEq,and_true,true_and] at h;cases a;cases b;simp only [aF.mk.injEq];simp only at h;omega
theorem aF.plain (s:aF):fY s.a=some s.v:=rfl
def iH:Nat→List aC→List (Value×AV)
 |_,[]=>[]
 |k,m :: l=>(m.s.v,.i k) :: iH (k+1) l
theorem x7 (s:aF):∀(k:Nat) (out:List aC),fC s.v (iH k out)=(lG s out).map fun i=>(i,.i ((k+i:Nat):Int))
 |_,[]=>rfl
 |k,m :: l=>by
  rw [iH,fC,lG,x7 s (k+1) l];by_cases h:m.s=s
  ·rw [if_pos (by rw [h]),if_pos h];rfl
  ·rw [if_neg (fun e=>h (aF.v_inj e)),if_neg h,Option.map_map,Option.map_map];congr 1;funext i;simp only [Function.comp];rw [show k+1+i=k+(i+1) by omega]
theorem aKD (n:aC):∀(k:Nat) (out:List aC),iH k (out++[n])=iH k out++[(n.s.v,.i ((k+out.length:Nat):Int))]
 |_,[]=>rfl
 |k,m :: l=>by rw [List.cons_append,iH,iH,aKD n (k+1) l,List.cons_append,List.length_cons,show k+1+l.length=k+(l.length+1) by omega]
theorem aKE {n:aC}:∀(k i:Nat) (out:List aC) (h:i<out.length),out[i].s=n.s→iH k (out.set i n)=iH k out
 |_,_,[],h,_=>by simp at h
 |k,0,m :: l,_,e=>by simp only [List.set_cons_zero,iH];rw [show m.s=n.s from e]
 |k,i+1,m :: l,h,e=>by rw [List.set_cons_succ,iH,iH,aKE (k+1) i l (by simpa using h) (by simpa using e)]
theorem tN {s:aF}:∀{out:List aC} {i:Nat},lG s out=some i→∃h:i<out.length,out[i].s=s
 |[],i,h=>by simp [lG] at h
 |m :: l,i,h=>by
  rw [lG] at h;split at h
  ·rename_i e;cases h;exact ⟨by simp,e⟩
  ·obtain ⟨j,h1,rfl⟩:=Option.map_eq_some_iff.1 h;obtain ⟨h2,h3⟩:=tN h1;exact ⟨by simpa using h2,by simpa using h3⟩
theorem aKF (s:aF) (k:Nat) (out:List aC):mE P 91 s.a s.v (iH k out):=by
 induction out generalizing k with
 |nil=>intro e h;cases h
 |cons m l ih=>
  intro e h;rw [iH] at h;rcases List.mem_cons.1 h with rfl | h
  ·refine ⟨m.s.a,m.s.plain,?_⟩;rw [vW];congr 1;rw [decide_eq_decide];exact ⟨fun h=>by rw [h],fun h=>(aF.v_inj h).symm⟩
  ·exact ih (k+1) e h
theorem aOQ (s:aF):lJ P 10000 91 s.a=true:=by kernel_rfl
theorem aY9 (out:List aC) (n:aC):(eZ out n).length≤out.length+1:=by
 unfold eZ;split
 ·simp
 ·split<;>simp
def aM (l:List aC):List (List T):=l.map aC.t
theorem jX (l:List aC) {k:Nat} (h:k<l.length):(aM l)[k]'(by rw [aM,List.length_map];exact h)=l[k].t:=by simp [aM]
theorem vG (l:List aC):∀y∈aM l,y.length=10:=by intro y hy;simp only [aM,List.mem_map] at hy;obtain ⟨n,_,rfl⟩:=hy;rfl
structure aC.Fine (n:aC):Prop where
 ok:n.s.ok
 len:n.path.length<2^31
theorem aZF (l:List aC) (hl:l.length<2^31) (hn:∀n∈l,n.Fine):Pure P 187 [.t (.sl (aM l))] (.t (.sl (aM (oL l)))):=by
 generalize hR:oL l=R;refine aW Tryz.func187 rfl rfl (by simp [Tryz.f187]) (by simp [aE,aE.bndL]) (by simp [aE,aE.bndL]) fun B hB hnx=>?_
 simp only [Tryz.f187] at hB ⊢;have hil:(aM l).length=l.length:=List.length_map _;have hgt:∀(k:Nat) (h:k<l.length),(aM l)[k]'(by rw [hil];exact h)=l[k].t:=fun k h=>jX l h
 generalize hX:aM l=X at *;have hmost:bH=4294967296:=rfl;refine aD ?_;simp [go_sem,hil];refine jC 4 10 (by simp [go_sem]) ?_
 refine bA (α:=Nat×List aC×Nat×(Nat→aG)×Nat) (fun (k,out,j,σ,nx)=>k≤l.length∧(l.drop k).foldl eZ out=R∧out.length≤k∧σ 0= .map (iH 0 out)∧σ j= .arr 10 (aM out)∧0<j∧j<nx)
  (fun (k,out,j,σ,nx)=>⟨sl [(3,.mapr 0),(4,.ref j),(10,.t (.sl X)),(11,.i l.length),(12,.i k)],σ,nx⟩) (fun a=>l.length-a.1) (0,[],1,_,2) ?_ (aH.slots (by simp [go_sem,hil]) rfl rfl) ?_
 ·exact ⟨Nat.zero_le _,hR,Nat.le_refl _,by simp [aB,iH],by simp [aB,aM],by omega,by omega⟩
 rintro ⟨k,out,j,σ,nx⟩ ⟨g1,g2,g3,g4,g5,g6,g7⟩;refine aI ?_;simp [go_sem];refine bU (fun hk=>?_) (fun hk=>?_)
 ·have hkk:IntKind.i64.wrap ((k:Int)+1)=((k+1:Nat):Int):=by rw [aO ((k:Int)+1) (by omega)];rfl
  have hget:∀h:k<X.length,X[k]'h=l[k].t:=fun h=>hgt k hk
  rw [List.drop_eq_getElem_cons hk,List.foldl_cons] at g2;have hfine:=hn l[k] (List.getElem_mem _);generalize l[k]=n at *;have hown:=aDX n (by have:=hfine.len;omega);simp [go_sem,hil,hk,hget,aC.t,g5];refine aF9 (kt:=91) (et:=3) (es:=iH 0 out) (u:=n.s.v) (m:=0) (r:=match lG n.s out with | some i=>.tup [.i i,.b true] | none=>.tup [.i 0,.b false]) rfl rfl (by simp [go_sem,hB]) aFE rfl oU (by kernel_rfl) (by simp [go_sem]) (by simp [go_sem,g4,show ¬0=nx by omega]) (by simp [go_sem];exact n.s.plain) (by simp [go_sem];exact aOQ n.s) (by simp [go_sem];exact aKF n.s 0 out) ?_ ?_
  ·rw [pP,x7];cases lG n.s out with
   |none=>simp [go_sem]
   |some i=>simp
  have ho:eZ out n=match lG n.s out with
   |none=>out++[n]
   |some i=>if n.cost<(out.getD i n).cost then out.set i n else out:=rfl
  have hlen:(aM out).length=out.length:=List.length_map _;have hnj:¬j=nx:=by omega
  have hn0:¬0=nx:=by omega
  have h0j:¬0=j:=by omega
  cases hi:lG n.s out with
  |none=>
   rw [hi] at ho;simp only at ho;rw [ho] at g2;have hcap:out.length+1≤bH:=by omega
   refine aD ?_;simp [go_sem,g5,hlen,hnj];refine aQJ (kt:=91) (et:=3) (es:=iH 0 out) (u:=n.s.v) (m:=0) rfl rfl (by simp [go_sem,hB]) aFE rfl (by kernel_rfl) (by simp [go_sem]) (by simp [go_sem,g4,hn0]) (by simp [go_sem];exact n.s.plain) (by simp [go_sem];exact aOQ n.s) (by simp [go_sem];exact aKF n.s 0 out) (.inl (by rw [x7,hi];rfl)) ?_;refine aD ?_;simp [go_sem,show ¬nx=0 by omega];refine aL rfl rfl rfl (args:=[n.a]) (f:=185) (by simp [go_sem,aC.a,aC.cs]) (by simp [go_sem,hB]) ((hown).spec _ _) ?_;refine aD ?_;simp [go_sem,aC.a,aC.cs,g5,hlen,hcap,hnj,hkk,h0j,show ¬j=0 by omega];refine Next.mk (k+1,out++[n],nx+1,_,nx+2) ?_ (aH.slots (by simp [go_sem]) rfl rfl) (by simp only;omega);refine ⟨by simp only;omega,g2,by simp only [List.length_append,List.length_cons,List.length_nil];omega,?_,?_,by simp only;omega,by simp only;omega⟩
   ·simp [aB,hn0,h0j,hZ,x7,hi,aKD]
   ·simp [aB,aM,aC.t]
  |some i=>
   obtain ⟨hil2,his⟩:=tN hi;rw [hi] at ho;simp only at ho;have hgi:∀h:i<(aM out).length,(aM out)[i]'h=out[i].t:=fun h=>jX out hil2
   have hgd:out.getD i n=out[i]:=by rw [List.getD_eq_getElem?_getD,List.getElem?_eq_getElem hil2];rfl
   rw [hgd] at ho;have q1:i*10 / 10=i:=by omega
   have q2:(i*10+8) / 10=i:=by omega
   have q3:(i*10+8) % 10=8:=by omega
   have q4:i*10 % 10=0:=by omega
   have q5:(i:Int)<out.length:=by omega
   refine aD ?_;simp [go_sem];refine bK [] rfl (by rw [hB];kernel_rfl) ?_;by_cases c1:n.cost<out[i].cost
   ·rw [if_pos c1] at ho;rw [ho] at g2;refine aD ?_;simp [go_sem,g5,hlen,hnj,hgi,q2,q3,q5,hil2,aC.t,c1];refine aL rfl rfl rfl (args:=[n.a]) (f:=185) (by simp [go_sem,aC.a,aC.cs]) (by simp [go_sem,hB]) ((hown).spec _ _) ?_;refine aD ?_;simp [go_sem,aC.a,aC.cs,g5,hlen,hnj,hgi,q1,q4,q5,hil2,aC.t,hkk];refine Next.mk (k+1,out.set i n,j,_,nx+1) ?_ (aH.slots (by simp [go_sem]) rfl rfl) (by simp only;omega);refine ⟨by simp only;omega,g2,by simp only [List.length_set];omega,?_,?_,by simp only;omega,by simp only;omega⟩
    ·rw [aKE 0 i out hil2 his];simp [aB,hn0,h0j,g4]
    ·simp [aB,aM,aC.t,List.map_set]
   ·rw [if_neg c1] at ho;rw [ho] at g2;refine aD ?_;simp [go_sem,g5,hlen,hnj,hgi,q2,q3,q5,hil2,aC.t,c1,hkk];refine Next.mk (k+1,out,j,_,nx+1) ?_ (aH.slots (by simp [go_sem]) rfl rfl) (by simp only;omega);refine ⟨by simp only;omega,g2,by simp only;omega,?_,?_,by simp only;omega,by simp only;omega⟩
    ·simp [aB,hn0,g4]
    ·simp [aB,hnj,g5]
 ·have:k=l.length:=by omega
  subst this;rw [List.drop_length,List.foldl_nil] at g2;subst g2;simp [go_sem,g5]
theorem aN6 {s:aF}:∀{l:List aC},lG s l=none→∀m∈l,m.s≠s
 |[],_,m,h=>by cases h
 |a :: l,h,m,hm=>by
  rw [lG] at h;split at h
  ·cases h
  ·rename_i e;rcases List.mem_cons.1 hm with rfl | hm
   ·exact e
   ·exact aN6 (by simpa using h) m hm
theorem bCR {out:List aC} {n:aC} {i:Nat} (h:i<out.length) (e:out[i].s=n.s):(out.set i n).map aC.s=out.map aC.s:=by
 rw [List.map_set,←e];apply List.ext_getElem?;intro j;by_cases hj:i=j
 ·subst hj;rw [List.getElem?_set_self (by simpa using h),List.getElem?_map,List.getElem?_eq_getElem h];rfl
 ·rw [List.getElem?_set_ne hj]
theorem aZB {out:List aC} (h:(out.map aC.s).Nodup) (n:aC):((eZ out n).map aC.s).Nodup:=by
 unfold eZ;split
 ·rename_i e;rw [List.map_append,List.nodup_append];refine ⟨h,by simp,?_⟩;intro a ha b hb;simp only [List.map_cons,List.map_nil,List.mem_singleton] at hb;obtain ⟨m,hm,rfl⟩:=List.mem_map.1 ha;rw [hb];exact aN6 e m hm
 ·rename_i i e;obtain ⟨h1,h2⟩:=tN e;split
  ·rw [bCR h1 h2];exact h
  ·exact h
def aA.child (x:aA) (n:aC) (j:Int):aC:=⟨(x.move n.s j).1,dL [n.cost,(x.move n.s j).2.1],n.path++[j]⟩
def aC.ra (n:aC) (r:Nat):AV:=.agg [.i n.s.spot,.i n.s.car,.i n.s.time,.i n.s.load,.i n.s.first,.u n.s.must,.u n.s.can,.u n.s.on,.i n.cost,.ref r]
theorem aS1 (x:aA) (n:aC) (σ:Nat→aG) (nx:Nat):bN P 186 [x.a,n.a] σ nx fun r σ' nx'=>r= .fn (.func 224) [] [.ptr nx 0,.ptr (nx+1) 0]∧nx'=nx+2∧
  σ'=aB (aB σ nx (.box x.cs)) (nx+1) (.box n.cs):=by
 refine cA Tryz.func186 rfl rfl (by simp [Tryz.f186]) fun B hB hnx hσ=>?_
 simp only [Tryz.f186] at hB ⊢;refine aD ?_;simp [go_sem,aA.a,aC.a,aC.cs,aA.cs];omega
theorem aS0 (x:aA) (n:aC) (hl:x.stops.length<2^63) (ho:n.s.ok) (hp:n.path.length<2^31) (q b1 b2:Nat) (J:Nat→(Nat→aG)→Nat→Prop) (σ0:Nat→aG) (nx0:Nat) (h0:J 0 σ0 nx0)
  (hb:∀k σ nx,J k σ nx→nx0≤nx∧b1<nx∧b2<nx∧σ b1= .box x.cs∧σ b2= .box n.cs)
  (hy:∀k (hk:k<(x.moves n.s).length) σ nx σ1 nx1 r,J k σ nx→(∀i,i<nx→σ1 i=σ i)→nx≤r→r<nx1→σ1 r= .arr 1 (aJ (n.path++[(x.moves n.s)[k]]))→
   ∃σ' nx',rZ P q [(x.child n (x.moves n.s)[k]).ra r] σ1 nx1 (fun a b=>a=σ'∧b=nx')∧J (k+1) σ' nx'):
  bN P 224 [.yld q,.ptr b1 0,.ptr b2 0] σ0 nx0 fun _ σ' nx'=>J (x.moves n.s).length σ' nx':=by
 refine cA Tryz.func224 rfl rfl (by simp [Tryz.f224]) fun B hB hnx hσ=>?_
 simp only [Tryz.f224] at hB ⊢;obtain ⟨_,_,_,a1,a2⟩:=hb 0 σ0 nx0 h0;have hms:=aLM x n.s hl ho;have hmv:=fun j=>aLJ x n.s j hl ho
 have hil:(aJ (x.moves n.s)).length=(x.moves n.s).length:=List.length_map _;have hpl:(aJ n.path).length=n.path.length:=List.length_map _;have hgt:∀(k:Nat) (h:k<(x.moves n.s).length),(aJ (x.moves n.s))[k]'(by rw [hil];exact h)=[.i ((x.moves n.s)[k])]:=fun k h=>gH _ h
 have hml:(x.moves n.s).length<2^63:=by rw [rE];have:=sD (fun k=>(x.move n.s k).2.2) x.stops.length;omega
 have hmost:bH=4294967296:=rfl;have hcl:=sF n.path (by omega);generalize hX:aJ (x.moves n.s)=X at *;generalize hL:x.moves n.s=L at *;refine aD ?_;simp [go_sem,a1,a2,aA.cs,aC.cs];refine aL rfl rfl rfl (args:=[x.a,n.s.a]) (f:=204) (by simp [go_sem,aA.a,aF.a,aF.cs]) (by simp [go_sem,hB]) ((hms).spec _ _) ?_;refine aD ?_;simp [go_sem,hil];refine bA (α:=Nat×(Nat→aG)×Nat) (fun (k,σ,nx)=>k≤L.length∧J k σ nx) (fun (k,σ,nx)=>⟨sl [(0,.yld q),(1,.ptr b1 0),(2,.ptr b2 0),(12,.t (.sl X)),(13,.i L.length),(14,.i k)],σ,nx⟩) (fun a=>L.length-a.1) (0,σ0,nx0) ⟨Nat.zero_le _,h0⟩ (aH.slots (by simp [go_sem]) rfl rfl) ?_;rintro ⟨k,σ,nx⟩ ⟨g1,g2⟩;obtain ⟨gn,l1,l2,d1,d2⟩:=hb k σ nx g2;refine aI ?_;simp [go_sem];refine bU (fun hk=>?_) (fun hk=>?_)
 ·have hkk:IntKind.i64.wrap ((k:Int)+1)=((k+1:Nat):Int):=by rw [aO ((k:Int)+1) (by omega)];rfl
  have hget:∀h:k<X.length,X[k]'h=[.i L[k]]:=fun h=>hgt k hk
  have hyk:=hy k hk σ nx;generalize L[k]=j at *;have hm:=hmv j;have hch:x.child n j=⟨(x.move n.s j).1,dL [n.cost,(x.move n.s j).2.1],n.path++[j]⟩:=rfl;generalize x.child n j=c at *;generalize x.move n.s j=V at *;obtain ⟨t,d,is⟩:=V;simp only at hch;have hsum:=tQ [n.cost,d] (by simp);have n1:¬b1=nx:=by omega
  have n2:¬b2=nx:=by omega
  have n3:¬b2=nx+1:=by omega
  have hcap:n.path.length+1≤bH:=by omega
  simp [go_sem,hil,hk,hget,d1,d2,aA.cs,aC.cs];refine aL rfl rfl rfl (args:=[x.a,n.s.a,.i j]) (f:=205) (by simp [go_sem,aA.a,aF.a,aF.cs]) (by simp [go_sem,hB]) ((hm).spec _ _) ?_;refine aD ?_;simp [go_sem,mv,aF.a,aF.cs];refine aF5 [9,12,14] [0,1,10,11] [1] rfl (by rw [hB];kernel_rfl) (by kernel_rfl) fun ht hf'=>?_
  refine aD ?_;simp [go_sem,ht,hf',d2,n2,aC.cs];refine bQ rfl rfl rfl (args:=[.fsl (aJ [n.cost,d])]) (f:=134) (by simp [go_sem,aJ]) (Pure.loose hsum (by simp [aE])) ?_;refine aD ?_;simp [go_sem,ht,hf',d2,n2,aC.cs];refine o8 rfl rfl rfl (args:=[.t (.sl (aJ n.path))]) (f:=93) (by simp [go_sem]) (hcl _ _) (by decide) (oK (by simp [go_sem])) ?_;refine aD ?_;simp [go_sem,ht,hf',hpl,hcap,show ¬nx=nx+1+1 by omega,show ¬nx=nx+1 by omega];obtain ⟨σ',nx',h1,h2⟩:=hyk (aB (aB (aB (aB (aB σ nx (.box [.i 0,.i 0,.i 0,.i 0,.i 0,.u 0,.u 0,.u 0])) nx (.box [.i t.spot,.i t.car,.i t.time,.i t.load,.i t.first,.u t.must,.u t.can,.u t.on])) (nx+1) (.arr 1 (aJ n.path))) (nx+1) .dead) (nx+2) (.arr 1 (aJ n.path++[[.i j]]))) (nx+3) (nx+2) g2 (fun i hi=>by simp [aB,show ¬i=nx by omega,show ¬i=nx+1 by omega,show ¬i=nx+2 by omega]) (by omega) (by omega) (by simp [aB,aJ]);refine aQC rfl rfl rfl (q:=q) (args:=[c.ra (nx+2)]) (σ':=σ') (nx':=nx') (by simp [go_sem]) (by simp [go_sem,aC.ra,hch]) h1 (by decide) (oK ⟨.inl (by kernel_rfl),trivial⟩) ?_;refine aD ?_;simp [go_sem,hkk];exact Next.mk (k+1,σ',nx') ⟨by simp only;omega,h2⟩ (aH.slots (by simp [go_sem]) rfl rfl) (by simp only;omega)
 ·have:k=L.length:=by omega
  subst this;simp [go_sem,hnx,g2];exact gn
def aA.kids (x:aA) (up:Int) (n:aC):List aC:=((x.moves n.s).map (x.child n)).filter fun c=>decide (x.of c<up)
def aC.zero:aC:=⟨aF.zero,0,[]⟩
def aA.best1 (x:aA) (b:aC×Bool) (n:aC):aC×Bool:=
 if (x.endS n.s).2=true∧(b.2=false∨dL [n.cost,(x.endS n.s).1]<b.1.cost) then ({n with cost:=dL [n.cost,(x.endS n.s).1]},true) else b
def aA.bests (x:aA) (l:List aC):aC×Bool:=l.foldl x.best1 (aC.zero,false)
def aA.next (x:aA) (l:List aC) (up:Int):List aC:=oL (l.flatMap (x.kids up))
theorem aLL (x:aA) (s:aF):(x.moves s).length≤33:=by
 cases hm:x.may with
 |false=>rw [aA.moves,if_neg (by simp [hm])];simp
 |true=>obtain ⟨p,hx⟩:=x.fit hm;have:=hx.len;have:=hx.few;have:=aX7 x s;omega
theorem aKG (x:aA) (up:Int) (n:aC):(x.kids up n).length≤33:=by unfold aA.kids;refine Nat.le_trans (List.length_filter_le _ _) ?_;rw [List.length_map];exact aLL x n.s
def fW (l:List aC) (b:aC×Bool):AV:=.tup [.t (.sl (aM l)),b.1.a,.b b.2]
theorem bEQ (x:aA) (up:Int) (n:aC) {k:Nat} (hk:k<(x.moves n.s).length):
  (((x.moves n.s).take (k+1)).map (x.child n)).filter (fun c=>decide (x.of c<up))=(((x.moves n.s).take k).map (x.child n)).filter (fun c=>decide (x.of c<up))++(if x.of (x.child n (x.moves n.s)[k])<up then [x.child n (x.moves n.s)[k]] else []):=by
 rw [List.take_succ_eq_append_getElem hk,List.map_append,List.filter_append];congr 1;simp only [List.map_cons,List.map_nil,List.filter_cons,List.filter_nil,decide_eq_true_eq]
structure aGG (x:aA) (up:Int) (n:aC) (all:List aC) (b:aC) (L:aG) (nx0 b1:Nat) (k:Nat) (σ:Nat→aG) (nx:Nat):Prop where
 o0:σ 0= .box x.cs
 o1:σ 1= .box [.i up]
 o2:σ 2= .box aC.zero.cs
 o4:σ 4= .box b.cs
 p1:σ b1= .box x.cs
 p2:σ (b1+1)= .box n.cs
 q:σ (b1+2)=L
 le:nx0≤nx∧b1+2<nx∧4<b1
 row:∃a,σ 3= .box [.ref a]∧σ a= .arr 10 (aM (all++(((x.moves n.s).take k).map (x.child n)).filter fun c=>decide (x.of c<up)))∧4<a∧a<nx∧a≠b1∧a≠b1+1∧a≠b1+2
theorem xZ (x:aA) (l:List aC) (up:Int) (hl:x.stops.length<2^31) (hll:l.length<2^20) (hn:∀n∈l,n.Fine) (hn2:∀n∈l,n.path.length<2^30):Pure P 138 [x.a,.t (.sl (aM l)),.i up] (fW (x.next l up) (x.bests l)):=by
 generalize hR:x.next l up=R;generalize hRb:x.bests l=Rb;refine aM2 Tryz.func138 rfl rfl (by simp [Tryz.f138]) (by simp [aE,aE.bndL,aA.a]) (by simp [aE,aE.bndL,fW,aC.a,aC.cs]) fun B hB hnx hro=>?_
 simp only [Tryz.f138] at hB ⊢;have hil:(aM l).length=l.length:=List.length_map _;have hgt:∀(k:Nat) (h:k<l.length),(aM l)[k]'(by rw [hil];exact h)=l[k].t:=fun k h=>jX l h
 generalize hX:aM l=X at *;have hmost:bH=4294967296:=rfl;rw [aA.next] at hR;rw [aA.bests] at hRb;refine aD ?_;simp [go_sem,aA.a,hil];refine jB (((aH.ownB (b:=3) (off:=0) (sz:=10) (cs:=[.fsl []]) (by simp [go_sem]) rfl).trans (aH.looseB (b:=2) (cs:=[.i 0,.i 0,.i 0,.i 0,.i 0,.u 0,.u 0,.u 0,.i 0,.fsl []]) (by simp [aB]))).trans (aH.looseB (b:=4) (cs:=[.i 0,.i 0,.i 0,.i 0,.i 0,.u 0,.u 0,.u 0,.i 0,.fsl []]) (by simp [aB]))) ?_
 refine bA (α:=Nat×List aC×(aC×Bool)×Nat×(Nat→aG)×Nat) (fun (k,all,b,a,σ,nx)=>k≤l.length∧(all++(l.drop k).flatMap (x.kids up)=l.flatMap (x.kids up)∧all.length≤33*k)∧(l.drop k).foldl x.best1 b=Rb∧σ 0= .box x.cs∧σ 1= .box [.i up]∧σ 2= .box aC.zero.cs∧σ 3= .box [.ref a]∧σ 4= .box b.1.cs∧σ a= .arr 10 (aM all)∧4<a∧a<nx)
  (fun (k,all,b,a,σ,nx)=>⟨sl [(3,.ptr 0 0),(5,.ptr 1 0),(7,.ptr 2 0),(9,.ptr 3 0),(10,.ptr 4 0),(11,.b b.2),(18,.t (.sl X)),(19,.i l.length),(20,.i k)],σ,nx⟩) (fun a=>l.length-a.1) (0,[],(aC.zero,false),5,_,6) ?_ (aH.slots (by simp [go_sem]) rfl rfl) ?_
 ·exact ⟨Nat.zero_le _,⟨rfl,Nat.le_refl _⟩,hRb,by simp [aB,aA.cs],by simp [aB],by simp [aB,aC.zero,aF.zero,aC.cs,aJ,cQ],by simp [aB],by simp [aB,aC.zero,aF.zero,aC.cs,aJ,cQ],by simp [aB,aM],by omega,by omega⟩
 rintro ⟨k,all,b,a,σ,nx⟩ ⟨g1,⟨g2,g2'⟩,g3,h0,h1,h2,h3,h4,h5,h6,h7⟩;refine aI ?_;simp [go_sem];refine bU (fun hk=>?_) (fun hk=>?_)
 ·have hkk:IntKind.i64.wrap ((k:Int)+1)=((k+1:Nat):Int):=by rw [aO ((k:Int)+1) (by omega)];rfl
  have hget:∀h:k<X.length,X[k]'h=l[k].t:=fun h=>hgt k hk
  rw [List.drop_eq_getElem_cons hk,List.flatMap_cons] at g2;rw [List.drop_eq_getElem_cons hk,List.foldl_cons] at g3;have hfine:=hn l[k] (List.getElem_mem _);have hpath:=hn2 l[k] (List.getElem_mem _);generalize l[k]=n at *;have hen:=aH7 x n.s (by omega) hfine.ok;have hown:=aDX n (by omega);have hbe:x.best1 b n=if (x.endS n.s).2=true∧(b.2=false∨dL [n.cost,(x.endS n.s).1]<b.1.cost) then ({n with cost:=dL [n.cost,(x.endS n.s).1]},true) else b:=rfl
  have m0:¬0=nx:=by omega
  have m1:¬1=nx:=by omega
  have m2:¬2=nx:=by omega
  have m3:¬3=nx:=by omega
  have m4:¬4=nx:=by omega
  have ma:¬a=nx:=by omega
  have ma4:¬a=4:=by omega
  have mn4:¬nx=4:=by omega
  simp [go_sem,hil,hk,hget,aC.t,h0,m0,aA.cs];refine aL rfl rfl rfl (args:=[x.a,n.s.a]) (f:=158) (by simp [go_sem,aA.a,aF.a,aF.cs]) (by simp [go_sem,hB]) ((hen).spec _ _) ?_;refine bG hB 10 ?_;simp [go_sem]
  refine aF2 (α:=Nat→aG) (fun σ'=>σ' 0= .box x.cs∧σ' 1= .box [.i up]∧σ' 2= .box aC.zero.cs∧σ' 3= .box [.ref a]∧σ' 4= .box (x.best1 b n).1.cs∧σ' a= .arr 10 (aM all)∧σ' nx= .box n.cs)
   (fun σ'=>⟨sl [(3,.ptr 0 0),(5,.ptr 1 0),(7,.ptr 2 0),(9,.ptr 3 0),(10,.ptr 4 0),(11,.b (x.best1 b n).2),(13,.ptr nx 0),(18,.t (.sl X)),(19,.i l.length),(20,.i k)],σ',nx+1⟩) ?_ ?_
  ·have hsum:=tQ [n.cost,(x.endS n.s).1] (by simp);generalize x.best1 b n=b' at *;generalize x.endS n.s=E at *;obtain ⟨c,is⟩:=E;cases is with
   |false=>
    rw [if_neg (by simp)] at hbe;subst hbe;refine aD ?_;simp [go_sem];refine ⟨_,⟨?_,?_,?_,?_,?_,?_,?_⟩,aH.slots (by simp [go_sem]) rfl rfl⟩
    all_goals simp [aB,m0,m1,m2,m3,m4,ma,h0,h1,h2,h3,h4,h5,aA.cs,aC.cs]
   |true=>
    simp only [true_and] at hbe;refine aD ?_;simp [go_sem];refine aL rfl rfl rfl (args:=[.fsl (aJ [n.cost,c])]) (f:=134) (by simp [go_sem,aJ]) (by simp [go_sem,hB]) ((Pure.loose hsum (by simp [aE])).spec _ _) ?_;generalize dL [n.cost,c]=e at *;by_cases c1:b.2=false∨e<b.1.cost
    ·rw [if_pos c1] at hbe;subst hbe;cases c2:b.2 with
     |false=>
      refine aD ?_;simp [go_sem,c2];refine aL rfl rfl rfl (args:=[n.a]) (f:=185) (by simp [go_sem,aC.a,aC.cs]) (by simp [go_sem,hB]) ((hown).spec _ _) ?_;refine aD ?_;simp [go_sem,aC.a,aC.cs,h4,m4,mn4];refine ⟨_,⟨?_,?_,?_,?_,?_,?_,?_⟩,aH.slots (by simp [go_sem]) rfl rfl⟩
      all_goals simp [aB,m0,m1,m2,m3,m4,ma,ma4,mn4,h0,h1,h2,h3,h4,h5,aA.cs,aC.cs]
     |true=>
      have c3:e<b.1.cost:=c1.resolve_left (by simp [c2]);refine aD ?_;simp [go_sem,c2,h4,m4,aC.cs,c3];refine aL rfl rfl rfl (args:=[n.a]) (f:=185) (by simp [go_sem,aC.a,aC.cs]) (by simp [go_sem,hB]) ((hown).spec _ _) ?_;refine aD ?_;simp [go_sem,aC.a,aC.cs,h4,m4,mn4];refine ⟨_,⟨?_,?_,?_,?_,?_,?_,?_⟩,aH.slots (by simp [go_sem]) rfl rfl⟩
      all_goals simp [aB,m0,m1,m2,m3,m4,ma,ma4,mn4,h0,h1,h2,h3,h4,h5,aA.cs,aC.cs]
    ·rw [if_neg c1] at hbe;subst hbe
     have c2:b'.2=true:=by
      cases h:b'.2 with
      |true=>rfl
      |false=>exact absurd (.inl h) c1
     have c3:¬e<b'.1.cost:=fun h=>c1 (.inr h)
     refine aD ?_;simp [go_sem,c2,h4,m4,aC.cs,c3];refine ⟨_,⟨?_,?_,?_,?_,?_,?_,?_⟩,aH.slots (by simp [go_sem,c2]) rfl rfl⟩
     all_goals simp [aB,m0,m1,m2,m3,m4,ma,h0,h1,h2,h3,h4,h5,aA.cs,aC.cs]
  rintro σ' ⟨k0,k1,k2,k3,k4,k5,k6⟩;have hch:=aS1 x n;refine aD ?_;simp [go_sem,k0,k6,aA.cs,aC.cs];refine dX rfl rfl rfl (args:=[x.a,n.a]) (f:=186) (by simp [go_sem,aA.a,aC.a,aC.cs]) (by simp [go_sem,hB]) (hch _ _) ?_;rintro r σ2 nx2 ⟨rfl,rfl,rfl⟩;refine aD ?_;simp [go_sem];generalize hb':x.best1 b n=b' at *;have hsp:=aS0 x n (by omega) hfine.ok (by omega);have hk33:=aLL x n.s;refine jB (aH.slots (l:=[(3,.ptr 0 0),(5,.ptr 1 0),(7,.ptr 2 0),(9,.ptr 3 0),(10,.ptr 4 0),(11,.b b'.2),(18,.t (.sl X)),(19,.i l.length),(20,.i k),(51,.fn (.func 224) [] [.ptr (nx+1) 0,.ptr (nx+2) 0])]) (by simp [go_sem]) rfl rfl) ?_;refine aGC hro (f:=224) (args:=[.yld (nx+3),.ptr (nx+1) 0,.ptr (nx+2) 0]) (by simp [go_sem]) fun L hL=>⟨fun _ σ3 nx3=>aGG x up n all b'.1 L (nx+4) (nx+1) (x.moves n.s).length σ3 nx3,?_,?_⟩
  ·refine hsp (nx+3) (nx+1) (nx+2) (aGG x up n all b'.1 L (nx+4) (nx+1)) _ (nx+4) ?_ ?_ ?_
   ·refine ⟨?_,?_,?_,?_,?_,?_,?_,by omega,⟨a,?_,?_,by omega,by omega,by omega,by omega,by omega⟩⟩
    all_goals simp [aB,k0,k1,k2,k3,k4,k5,show ¬nx=0 by omega,show ¬nx=1 by omega,show ¬nx=2 by omega,show ¬nx=3 by omega,show ¬0=nx+3 by omega,show ¬1=nx+3 by omega,show ¬2=nx+3 by omega,show ¬3=nx+3 by omega,show ¬4=nx+3 by omega,show ¬a=nx+3 by omega,
     show ¬0=nx+2 by omega,show ¬1=nx+2 by omega,show ¬2=nx+2 by omega,show ¬3=nx+2 by omega,show ¬4=nx+2 by omega,show ¬a=nx+2 by omega,show ¬0=nx+1 by omega,show ¬1=nx+1 by omega,show ¬2=nx+1 by omega,show ¬3=nx+1 by omega,show ¬4=nx+1 by omega,show ¬a=nx+1 by omega,aA.cs,aC.cs]
   ·rintro k' σ3 nx3 hJ;have:=hJ.le;exact ⟨this.1,by omega,by omega,hJ.p1,hJ.p2⟩
   ·intro k' hk' σ3 nx3 σ4 nx4 r hJ hag hr1 hr2 hr3;have hle:=hJ.le;obtain ⟨a',r1,r2,r3,r4,r5,r6,r7⟩:=hJ.row;have htk:=bEQ x up n hk';have hcok:(x.child n (x.moves n.s)[k']).s.ok:=nM x _ hfine.ok;have hcp:(x.child n (x.moves n.s)[k']).path=n.path++[(x.moves n.s)[k']]:=rfl;rw [←hcp] at hr3;generalize x.child n (x.moves n.s)[k']=c at *;have hof:=aDM x c hl hcok;have hlen:(aM (all++(((x.moves n.s).take k').map (x.child n)).filter fun c=>decide (x.of c<up))).length+1≤bH:=by rw [aM,List.length_map,List.length_append];have:=List.length_filter_le (fun c=>decide (x.of c<up)) (((x.moves n.s).take k').map (x.child n));rw [List.length_map,List.length_take] at this;omega
    generalize (((x.moves n.s).take k').map (x.child n)).filter (fun c=>decide (x.of c<up))=F at *;have s0:σ4 0= .box x.cs:=(hag 0 (by omega)).trans hJ.o0;have s1:σ4 1= .box [.i up]:=(hag 1 (by omega)).trans hJ.o1;have s2:σ4 2= .box aC.zero.cs:=(hag 2 (by omega)).trans hJ.o2;have s3:σ4 3= .box [.ref a']:=(hag 3 (by omega)).trans r1;have s4:σ4 4= .box b'.1.cs:=(hag 4 (by omega)).trans hJ.o4;have s5:σ4 a'= .arr 10 (aM (all++F)):=(hag a' (by omega)).trans r2;have s6:σ4 (nx+1)= .box x.cs:=(hag (nx+1) (by omega)).trans hJ.p1;have s7:σ4 (nx+2)= .box n.cs:=(hag (nx+2) (by omega)).trans hJ.p2;have s8:σ4 (nx+3)=L:=(hag (nx+3) (by omega)).trans hJ.q;obtain ⟨σ5,hσ5⟩:∃σ5:Nat→aG,σ5=fun j=>if j=r then aG.dead else dC r (aJ c.path) (σ4 j):=⟨_,rfl⟩
    have f0:σ5 0= .box x.cs:=by simp [hσ5,show ¬0=r by omega,s0,dC,bB,bB.frzL,aA.cs]
    have f1:σ5 1= .box [.i up]:=by simp [hσ5,show ¬1=r by omega,s1,dC,bB,bB.frzL]
    have f2:σ5 2= .box aC.zero.cs:=by simp [hσ5,show ¬2=r by omega,s2,dC,bB,bB.frzL,aC.cs]
    have f3:σ5 3= .box [.ref a']:=by simp [hσ5,show ¬3=r by omega,s3,dC,bB,bB.frzL,show ¬a'=r by omega]
    have f4:σ5 4= .box b'.1.cs:=by simp [hσ5,show ¬4=r by omega,s4,dC,bB,bB.frzL,aC.cs]
    have f5:σ5 a'= .arr 10 (aM (all++F)):=by simp [hσ5,show ¬a'=r by omega,s5,dC]
    have f6:σ5 (nx+1)= .box x.cs:=by simp [hσ5,show ¬nx+1=r by omega,s6,dC,bB,bB.frzL,aA.cs]
    have f7:σ5 (nx+2)= .box n.cs:=by simp [hσ5,show ¬nx+2=r by omega,s7,dC,bB,bB.frzL,aC.cs]
    have f8:σ5 (nx+3)=L:=by simp [hσ5,show ¬nx+3=r by omega,s8,hL,dC]
    have d0:¬0=nx4:=by omega
    have d1:¬1=nx4:=by omega
    have d2:¬2=nx4:=by omega
    have d3:¬3=nx4:=by omega
    have d4:¬4=nx4:=by omega
    have d5:¬a'=nx4:=by omega
    have d6:¬nx+1=nx4:=by omega
    have d7:¬nx+2=nx4:=by omega
    have d8:¬nx+3=nx4:=by omega
    have hB0:=hB;by_cases hlt:x.of c<up
    ·refine ⟨aB (aB (aB (aB (aB σ5 nx4 (.box c.cs)) a' .dead) (nx4+1) (.arr 10 (aM (all++F)++[c.t]))) 3 (.box [.ref (nx4+1)])) (nx+3) L,nx4+2,?y,?j⟩
     case y=>
      refine aFU (s8.trans hL) rfl (by rw [hB];rfl) fun B' hB' hnx' hσ'=>?_
      have hL':=hL;rw [hB] at hL';have hB:=hB'.trans hB;refine jB ((aH.freeze (q:=r) (sz:=1) (es:=aJ c.path) hr3).trans (aH.slots (l:=[(3,.ptr 0 0),(5,.ptr 1 0),(9,.ptr 3 0),(52,c.a)]) (by simp [go_sem,tM,oO,bB,bB.frzL,hB0,aC.ra,aC.a,aC.cs]) hσ5 rfl)) ?_;refine aD ?_;simp [go_sem,f8,d8,hL,aC.a,aC.cs];refine aD ?_;simp [go_sem];refine bK [] rfl (by rw [hB];kernel_rfl) ?_;refine aD ?_;simp [go_sem,f0,d0,d8,show ¬nx4=nx+3 by omega,aA.cs];refine bQ rfl rfl rfl (args:=[x.a,c.a]) (f:=84) (by simp [go_sem,aA.a,aC.a,aC.cs]) (hof) ?_;refine aD ?_;simp [go_sem,f1,f3,f5,d1,d3,d5,d8,hlt,hlen,aC.cs,show ¬nx4=nx+3 by omega,show ¬a'=nx+3 by omega,show ¬nx=0 by omega,show ¬nx+3=a' by omega,show ¬nx+3=nx4 by omega,show ¬nx+3=nx4+1 by omega,show ¬nx4=2 by omega,show ¬3=a' by omega,show ¬nx4=nx+2 by omega,f8];funext i;have w1:¬nx=0:=by omega
      have w2:¬a'=nx+3:=by omega
      have w3:¬nx4=nx+3:=by omega
      have w4:¬nx4+1=nx+3:=by omega
      have w6:¬nx4=nx+2:=by omega
      have w7:¬a'=3:=by omega
      have w8:¬a'=nx4+1:=by omega
      by_cases e1:i=nx+3
      ·simp [aB,e1,hL,hB,hB0]
      by_cases e2:i=3
      ·simp [aB,e2,w1]
      by_cases e3:i=nx4+1
      ·simp [aB,e3,w4,w6,aC.t,aM]
      by_cases e4:i=a'
      ·simp [aB,e4,w2,w7,w8]
      by_cases e5:i=nx4
      ·simp [aB,e1,e2,e3,e4,e5,w3,aC.cs]
      simp [aB,e1,e2,e3,e4,e5]
     case j=>
      rw [if_pos hlt] at htk;have v0:∀j,j≤4→j≠3→¬j=a'∧¬j=nx4+1:=by intros;omega
      have w0:¬nx4=0:=by omega
      have w1:¬nx4=1:=by omega
      have w2:¬nx=2:=by omega
      have w3:¬nx=1:=by omega
      have w4:¬nx=nx4:=by omega
      have w5:¬nx=0:=by omega
      have w6:¬nx4=nx+2:=by omega
      have w7:¬nx4=nx+3:=by omega
      have w8:¬nx4=2:=by omega
      have w9:¬nx4=3:=by omega
      have wa:=v0 0 (by omega) (by omega);have wb:=v0 1 (by omega) (by omega);have wc:=v0 2 (by omega) (by omega);have wd:=v0 4 (by omega) (by omega);have we:¬nx+1=a':=by omega
      have wf:¬nx+2=a':=by omega
      refine ⟨?_,?_,?_,?_,?_,?_,?_,by omega,⟨nx4+1,?_,?_,by omega,by omega,by omega,by omega,by omega⟩⟩
      ·simp [aB,d0,f0,w0,aA.cs,wa.1,wa.2,w0,show ¬0=nx4+1 by omega]
      ·simp [aB,d1,f1,wb.1,wb.2,w1,w0]
      ·simp [aB,d2,f2,wc.1,wc.2,w8,aC.cs]
      ·simp [aB,f4,wd.1,wd.2,show ¬4=nx4 by omega,show ¬4=nx4+1 by omega,show ¬4=nx+3 by omega,aC.cs]
      ·simp [aB,d6,f6,we,w2,w4,show ¬nx+1=nx4 by omega,aA.cs]
      ·simp [aB,d7,f7,wf,show ¬nx+1=nx4 by omega,show ¬nx+2=3 by omega,show ¬nx+2=nx4+1 by omega,aC.cs]
      ·simp [aB]
      ·simp [aB,w5]
      ·rw [htk];simp [aB,w6,w8,aM]
    ·refine ⟨aB (aB σ5 nx4 (.box c.cs)) (nx+3) L,nx4+1,?y,?j⟩
     case y=>
      refine aFU (s8.trans hL) rfl (by rw [hB];rfl) fun B' hB' hnx' hσ'=>?_
      have hL':=hL;rw [hB] at hL';have hB:=hB'.trans hB;refine jB ((aH.freeze (q:=r) (sz:=1) (es:=aJ c.path) hr3).trans (aH.slots (l:=[(3,.ptr 0 0),(5,.ptr 1 0),(9,.ptr 3 0),(52,c.a)]) (by simp [go_sem,tM,oO,bB,bB.frzL,hB0,aC.ra,aC.a,aC.cs]) hσ5 rfl)) ?_;refine aD ?_;simp [go_sem,f8,d8,hL,aC.a,aC.cs];refine aD ?_;simp [go_sem];refine bK [] rfl (by rw [hB];kernel_rfl) ?_;refine aD ?_;simp [go_sem,f0,d0,d8,show ¬nx4=nx+3 by omega,aA.cs];refine bQ rfl rfl rfl (args:=[x.a,c.a]) (f:=84) (by simp [go_sem,aA.a,aC.a,aC.cs]) (hof) ?_;refine aD ?_;simp [go_sem,f1,f3,f5,d1,d3,d5,d8,hlt,hlen,aC.cs,show ¬nx4=nx+3 by omega,show ¬a'=nx+3 by omega,show ¬nx=0 by omega,show ¬nx+3=a' by omega,show ¬nx+3=nx4 by omega,show ¬nx+3=nx4+1 by omega,show ¬nx4=2 by omega,show ¬3=a' by omega,show ¬nx4=nx+2 by omega,f8];funext i;have w3:¬nx4=nx+3:=by omega
      by_cases e1:i=nx+3
      ·simp [aB,e1,hL,hB,hB0]
      by_cases e5:i=nx4
      ·simp [aB,e5,w3,aC.cs]
      simp [aB,e1,e5]
     case j=>
      rw [if_neg hlt,List.append_nil] at htk;have v0:∀j,j≤4→¬j=nx4∧¬j=nx+3:=by intros;omega
      have w0:=v0 0 (by omega);have w1:=v0 1 (by omega);have w2:=v0 2 (by omega);have w3:=v0 3 (by omega);have w4:=v0 4 (by omega);have we:¬nx+1=nx4:=by omega
      have wf:¬nx+2=nx4:=by omega
      have wg:¬nx=0:=by omega
      have wh:¬a'=nx4:=by omega
      have wi:¬a'=nx+3:=by omega
      refine ⟨?_,?_,?_,?_,?_,?_,?_,by omega,⟨a',?_,?_,by omega,by omega,by omega,by omega,by omega⟩⟩
      ·simp [aB,f0,w0,aA.cs]
      ·simp [aB,f1,w1,w1.2]
      ·simp [aB,f2,w2,aC.cs]
      ·simp [aB,f4,w4,aC.cs]
      ·simp [aB,f6,we,aA.cs]
      ·simp [aB,f7,wf,aC.cs]
      ·simp [aB]
      ·simp [aB,f3,w3,wg]
      ·rw [htk];simp [aB,f5,wh,wi]
  ·rintro r σ3 nx3 hJ;refine ⟨hJ.q,?_⟩;have hle:=hJ.le;obtain ⟨a',r1,r2,r3,r4,r5,r6,r7⟩:=hJ.row;rw [List.take_length] at r2;have hkl:(((x.moves n.s).map (x.child n)).filter fun c=>decide (x.of c<up))=x.kids up n:=rfl;rw [hkl] at r2;have hkl2:=aKG x up n;refine aD ?_;simp [go_sem,hkk];refine Next.mk (k+1,all++x.kids up n,b',a',aB σ3 (nx+3) .dead,nx3) ?_ (aH.slots (by simp [go_sem]) rfl rfl) (by simp only;omega);have v0:∀j,j≤4→¬j=nx+3:=by intros;omega
   have w0:=v0 0 (by omega);have w1:=v0 1 (by omega);have w2:=v0 2 (by omega);have w3:¬nx=0:=by omega
   have w4:=v0 4 (by omega);have w5:¬a'=nx+3:=by omega
   refine ⟨by simp only;omega,⟨by rw [List.append_assoc];exact g2,by simp only [List.length_append];omega⟩,g3,?_,?_,?_,?_,?_,?_,by simp only;omega,by simp only;omega⟩
   ·simp [aB,w0,hJ.o0]
   ·simp [aB,w1,hJ.o1]
   ·simp [aB,w2,hJ.o2,aC.cs]
   ·simp [aB,w3,r1]
   ·simp [aB,w4,hJ.o4,aC.cs]
   ·simp [aB,w5,r2]
 ·have:k=l.length:=by omega
  subst this;rw [List.drop_length,List.flatMap_nil,List.append_nil] at g2;rw [List.drop_length,List.foldl_nil] at g3;subst g3;rw [←g2] at hR;have hfa:∀n∈all,n.Fine:=by intro c hc;rw [g2] at hc;obtain ⟨n,hn3,hc⟩:=List.mem_flatMap.1 hc;obtain ⟨hc,-⟩:=List.mem_filter.1 hc;obtain ⟨j,hj,rfl⟩:=List.mem_map.1 hc;refine ⟨nM x _ (hn n hn3).ok,?_⟩;have:=hn2 n hn3;show (n.path++[j]).length<2^31;rw [List.length_append];simp only [List.length_cons,List.length_nil];omega
  have hon:=aZF all (by omega) hfa;rw [hR] at hon;refine aI ?_;simp [go_sem];obtain ⟨σ5,hσ5⟩:∃σ5:Nat→aG,σ5=fun j=>if j=a then aG.dead else dC a (aM all) (σ j):=⟨_,rfl⟩
  have f0:σ5 0= .box x.cs:=by simp [hσ5,show ¬0=a by omega,h0,dC,bB,bB.frzL,aA.cs]
  have f2:σ5 2= .box aC.zero.cs:=by simp [hσ5,show ¬2=a by omega,h2,dC,bB,bB.frzL,aC.cs]
  have f3:σ5 3= .box [.t (.sl (aM all))]:=by simp [hσ5,show ¬3=a by omega,h3,dC,bB,bB.frzL]
  have f4:σ5 4= .box b.1.cs:=by simp [hσ5,show ¬4=a by omega,h4,dC,bB,bB.frzL,aC.cs]
  refine jB ((aH.freeze (q:=a) (sz:=10) (es:=aM all) h5).trans (aH.slots (l:=[(7,.ptr 2 0),(9,.ptr 3 0),(10,.ptr 4 0),(11,.b b.2)]) (by simp [go_sem,bB,bB.frzL]) hσ5 rfl)) ?_;refine cT [5] [3] rfl (by rw [hB];kernel_rfl) (by kernel_rfl) fun ht hf'=>?_
  refine aD ?_;simp [go_sem,ht,hf',f3];refine bQ rfl rfl rfl (args:=[.t (.sl (aM all))]) (f:=187) (by simp [go_sem]) (hon) ?_;refine aD ?_;simp [go_sem,ht,hf',f4,f2,aC.cs];rfl
theorem aZA {out:List aC} {n m:aC} (h:m∈eZ out n):m∈out∨m=n:=by
 unfold eZ at h;split at h
 ·rcases List.mem_append.1 h with h | h
  ·exact .inl h
  ·exact .inr (List.mem_singleton.1 h)
 ·split at h
  ·exact List.mem_or_eq_of_mem_set h
  ·exact .inl h
theorem aJB:∀(l out:List aC) {m:aC},m∈l.foldl eZ out→m∈out∨m∈l
 |[],out,m,h=>.inl h
 |n :: l,out,m,h=>by
  rcases aJB l (eZ out n) h with h | h
  ·rcases aZA h with h | rfl
   ·exact .inl h
   ·exact .inr List.mem_cons_self
  ·exact .inr (List.mem_cons_of_mem _ h)
theorem aZD {l:List aC} {m:aC} (h:m∈oL l):m∈l:=(aJB l [] h).resolve_left (by simp)
theorem aI9:∀(l out:List aC),(l.foldl eZ out).length≤out.length+l.length
 |[],out=>Nat.le_refl _
 |n :: l,out=>by have h1:=aI9 l (eZ out n);have h2:=aY9 out n;simp only [List.foldl_cons,List.length_cons];omega
theorem aMC (l:List aC):(oL l).length≤l.length:=by have:=aI9 l [];simpa [oL] using this
theorem aIZ {α β:Type} (f:α→List β) (k:Nat) (h:∀a,(f a).length≤k):∀l:List α,(l.flatMap f).length≤k*l.length
 |[]=>by simp
 |a :: l=>by have h1:=h a;have h2:=aIZ f k h l;rw [List.flatMap_cons,List.length_append,List.length_cons,Nat.mul_add];omega
theorem aDG (x:aA) (l:List aC) (up:Int):(x.next l up).length≤33*l.length:=
 Nat.le_trans (aMC _) (aIZ _ 33 (aKG x up) l)
theorem gZ {x:aA} {l:List aC} {up:Int} {m:aC} (h:m∈x.next l up):∃n∈l,∃j∈x.moves n.s,m=x.child n j∧x.of m<up:=by obtain ⟨n,hn,hc⟩:=List.mem_flatMap.1 (aZD h);obtain ⟨hc,hu⟩:=List.mem_filter.1 hc;obtain ⟨j,hj,rfl⟩:=List.mem_map.1 hc;exact ⟨n,hn,j,hj,rfl,by simpa using hu⟩
theorem aGZ (x:aA) (k:Nat):∀(l:List aC) (b:aC×Bool),(∀n∈l,n.path.length≤k)→b.1.path.length≤k→(l.foldl x.best1 b).1.path.length≤k
 |[],b,h,hb=>hb
 |n :: l,b,h,hb=>by
  refine aGZ x k l _ (fun m hm=>h m (List.mem_cons_of_mem _ hm)) ?_;unfold aA.best1;split
  ·exact h n List.mem_cons_self
  ·exact hb
theorem aA2 {x:aA} {k:Nat} {l:List aC} (h:∀n∈l,n.path.length≤k):(x.bests l).1.path.length≤k:=aGZ x k l _ h (Nat.zero_le _)
theorem aJC:∀(l out:List aC),(out.map aC.s).Nodup→((l.foldl eZ out).map aC.s).Nodup
 |[],_,h=>h
 |n :: l,out,h=>aJC l _ (aZB h n)
theorem aZE (l:List aC):((oL l).map aC.s).Nodup:=aJC l [] (by simp)
theorem aZC (out:List aC) (n:aC):∃m∈eZ out n,m.s=n.s∧m.cost≤n.cost:=by
 unfold eZ;split
 ·exact ⟨n,by simp,rfl,Int.le_refl _⟩
 ·rename_i i e;obtain ⟨h1,h2⟩:=tN e;have hgd:out.getD i n=out[i]:=by rw [List.getD_eq_getElem?_getD,List.getElem?_eq_getElem h1];rfl
  rw [hgd];split
  ·exact ⟨n,List.mem_set h1 n,rfl,Int.le_refl _⟩
  ·exact ⟨out[i],List.getElem_mem h1,h2,by omega⟩
theorem aY8 (out:List aC) (n k:aC) (h:∃m∈out,m.s=k.s∧m.cost≤k.cost):∃m∈eZ out n,m.s=k.s∧m.cost≤k.cost:=by
 obtain ⟨m,hm,h1,h2⟩:=h;unfold eZ;split
 ·exact ⟨m,List.mem_append_left _ hm,h1,h2⟩
 ·rename_i i e;obtain ⟨h3,h4⟩:=tN e;have hgd:out.getD i n=out[i]:=by rw [List.getD_eq_getElem?_getD,List.getElem?_eq_getElem h3];rfl
  rw [hgd];split
  ·rename_i hc;obtain ⟨j,hj,rfl⟩:=List.mem_iff_getElem.1 hm;by_cases e2:i=j
   ·subst e2;exact ⟨n,List.mem_set h3 n,by rw [←h4,h1],by omega⟩
   ·refine ⟨out[j],?_,h1,h2⟩;rw [List.mem_iff_getElem];exact ⟨j,by simpa using hj,by rw [List.getElem_set_ne e2]⟩
  ·exact ⟨m,hm,h1,h2⟩
theorem aI6:∀(l out:List aC) (k:aC),(k∈l∨∃m∈out,m.s=k.s∧m.cost≤k.cost)→∃m∈l.foldl eZ out,m.s=k.s∧m.cost≤k.cost
 |[],out,k,h=>h.resolve_left (by simp)
 |n :: l,out,k,h=>by
  refine aI6 l (eZ out n) k ?_;rcases h with h | h
  ·rcases List.mem_cons.1 h with rfl | h
   ·exact .inr (aZC out k)
   ·exact .inl h
  ·exact .inr (aY8 out n k h)
theorem aDT {l:List aC} {k:aC} (h:k∈l):∃m∈oL l,m.s=k.s∧m.cost≤k.cost:=aI6 l [] k (.inl h)
theorem aL2 {α:Type} [DecidableEq α]:∀(l m:List α),l.Nodup→(∀a∈l,a∈m)→l.length≤m.length
 |[],m,_,_=>Nat.zero_le _
 |a :: l,m,h,hs=>by
  rw [List.nodup_cons] at h;have ha:=hs a List.mem_cons_self
  have:=aL2 l (m.erase a) h.2 fun b hb=>by
   have:b≠a:=fun e=>h.1 (e ▸ hb)
   exact (List.mem_erase_of_ne this).2 (hs b (List.mem_cons_of_mem _ hb))
  rw [List.length_erase_of_mem ha] at this;have:=List.length_pos_of_mem ha;rw [List.length_cons];omega
theorem bHM (s:Nat):dE s s=true:=by rw [dE,List.all_eq_true];intro i _;cases s.testBit i<;>rfl
theorem wO {s t u:Nat} (h1:dE s t=true) (h2:dE t u=true):dE s u=true:=by rw [dE,List.all_eq_true] at *;intro i hi;have a:=h1 i hi;have b:=h2 i hi;revert a b;cases s.testBit i<;>cases t.testBit i<;>cases u.testBit i<;>simp
def aC.than (a b:aC):Bool:=decide (a.cost≤b.cost)&&(decide (a.s.must=b.s.must)&&decide (a.s.can=b.s.can)&&decide (a.s.on=b.s.on))&&dB a.s b.s
theorem qX (s:aF):dB s s=true:=by simp [dB,bHM]
theorem aBX {a b c:aF} (h1:dB a b=true) (h2:dB b c=true):dB a c=true:=by simp only [dB,Bool.and_eq_true,decide_eq_true_eq] at *;obtain ⟨⟨⟨⟨⟨⟨⟨a1,a2⟩,a3⟩,a4⟩,a5⟩,a6⟩,a7⟩,a8⟩:=h1;obtain ⟨⟨⟨⟨⟨⟨⟨b1,b2⟩,b3⟩,b4⟩,b5⟩,b6⟩,b7⟩,b8⟩:=h2;exact ⟨⟨⟨⟨⟨⟨⟨a1.trans b1,wO a2 b2⟩,wO a3 b3⟩,wO b4 a4⟩,by omega⟩,by omega⟩,by omega⟩,by omega⟩
theorem bEW (a:aC):a.than a=true:=by simp [aC.than,qX]
theorem aE9 {a b c:aC} (h1:a.than b=true) (h2:b.than c=true):a.than c=true:=by simp only [aC.than,Bool.and_eq_true,decide_eq_true_eq] at *;obtain ⟨⟨a1,⟨a2,a3⟩,a4⟩,a5⟩:=h1;obtain ⟨⟨b1,⟨b2,b3⟩,b4⟩,b5⟩:=h2;exact ⟨⟨by omega,⟨by omega,by omega⟩,by omega⟩,aBX a5 b5⟩
def jE (out:List aC) (b:aC):List aC:=if out.any (fun a=>a.than b)=true then out else (out.filter fun a=>!b.than a)++[b]
def gG (l:List aC):List aC:=l.foldl jE []
def blk (pre:List aC) (b:aC) (post:List aC):Bool:=pre.any (fun a=>a.than b)||post.any fun c=>c.than b&& !b.than c
def lK (pre:List aC):List aC→List aC→List aC
 |[],_=>[]
 |b :: l,post=>(if blk pre b (l++post)=true then [] else [b])++lK (pre++[b]) l post
theorem aJG (c:aC):∀(l pre:List aC),lK pre l [c]=(lK pre l []).filter fun b=>!(c.than b&& !b.than c)
 |[],pre=>rfl
 |b :: l,pre=>by
  rw [lK,lK,List.filter_append,aJG c l];congr 1;have:blk pre b (l++[c])=(blk pre b (l++[])||(c.than b&& !b.than c)):=by simp [blk,Bool.or_assoc]
  rw [this];generalize hq:(c.than b&& !b.than c)=q;cases blk pre b (l++[])<;>cases q<;>simp only [Bool.or_true,Bool.or_false,Bool.false_eq_true,if_true,if_false,List.filter_cons,List.filter_nil,hq,Bool.not_true,Bool.not_false]
theorem aJF (c:aC):∀(l pre:List aC),lK pre (l++[c]) []=lK pre l [c]++(if (pre++l).any (fun a=>a.than c)=true then [] else [c])
 |[],pre=>by simp [lK,blk]
 |b :: l,pre=>by rw [List.cons_append,lK,lK,aJF c l,List.append_nil,List.append_assoc,List.append_assoc];simp
structure o7 (pre F:List aC):Prop where
 up:∀a∈pre,∃f∈F,f.than a=true
 sub:∀f∈F,f∈pre
 one:∀f∈F,∀b∈F,f.than b=true→f=b
 eq:F=lK [] pre []
theorem o7.step {pre F:List aC} (h:o7 pre F) (c:aC):o7 (pre++[c]) (jE F c):=by
 have hany:pre.any (fun a=>a.than c)=F.any fun a=>a.than c:=by
  rw [Bool.eq_iff_iff,List.any_eq_true,List.any_eq_true];constructor
  ·rintro ⟨a,ha,hc⟩;obtain ⟨f,hf,hfa⟩:=h.up a ha;exact ⟨f,hf,aE9 hfa hc⟩
  ·rintro ⟨f,hf,hc⟩;exact ⟨f,h.sub f hf,hc⟩
 have he:lK [] (pre++[c]) []=jE F c:=by
  rw [aJF,aJG,←h.eq,List.nil_append,hany];unfold jE;by_cases hc:F.any (fun a=>a.than c)=true
  ·rw [if_pos hc,if_pos hc,List.append_nil];rw [List.filter_eq_self];intro b hb;rw [List.any_eq_true] at hc;obtain ⟨f,hf,hfc⟩:=hc;cases h1:c.than b with
   |false=>rfl
   |true=>have:=h.one f hf b hb (aE9 hfc h1);subst this;simp [hfc]
  ·rw [if_neg hc,if_neg hc];congr 1;refine List.filter_congr fun b hb=>?_
   have:b.than c=false:=by
    cases h1:b.than c with
    |false=>rfl
    |true=>exact absurd (List.any_eq_true.2 ⟨b,hb,h1⟩) hc
   simp [this]
 refine ⟨?_,?_,?_,he.symm⟩
 ·intro a ha;unfold jE;split
  ·rename_i hc;rcases List.mem_append.1 ha with ha | ha
   ·exact h.up a ha
   ·rw [List.mem_singleton.1 ha];obtain ⟨f,hf,hfc⟩:=List.any_eq_true.1 hc;exact ⟨f,hf,hfc⟩
  ·rcases List.mem_append.1 ha with ha | ha
   ·obtain ⟨f,hf,hfa⟩:=h.up a ha;cases h1:c.than f with
    |true=>exact ⟨c,by simp,aE9 h1 hfa⟩
    |false=>exact ⟨f,List.mem_append_left _ (List.mem_filter.2 ⟨hf,by simp [h1]⟩),hfa⟩
   ·rw [List.mem_singleton.1 ha];exact ⟨c,by simp,bEW c⟩
 ·intro f hf;unfold jE at hf;split at hf
  ·exact List.mem_append_left _ (h.sub f hf)
  ·rcases List.mem_append.1 hf with hf | hf
   ·exact List.mem_append_left _ (h.sub f (List.mem_filter.1 hf).1)
   ·exact List.mem_append_right _ hf
 ·intro f hf b hb hfb;unfold jE at hf hb;split at hf
  ·rename_i hc;rw [if_pos hc] at hb;exact h.one f hf b hb hfb
  ·rename_i hc;rw [if_neg hc] at hb;rcases List.mem_append.1 hf with hf | hf<;>rcases List.mem_append.1 hb with hb | hb
   ·exact h.one f (List.mem_filter.1 hf).1 b (List.mem_filter.1 hb).1 hfb
   ·rw [List.mem_singleton.1 hb] at hfb;exact absurd (List.any_eq_true.2 ⟨f,(List.mem_filter.1 hf).1,hfb⟩) hc
   ·rw [List.mem_singleton.1 hf] at hfb;have:=(List.mem_filter.1 hb).2;rw [hfb] at this;cases this
   ·rw [List.mem_singleton.1 hf,List.mem_singleton.1 hb]
theorem o7.fold:∀{l pre F:List aC},o7 pre F→o7 (pre++l) (l.foldl jE F)
 |[],pre,F,h=>by rw [List.append_nil];exact h
 |c :: l,pre,F,h=>by have:=(h.step c).fold (l:=l);rw [List.append_assoc] at this;exact this
theorem u6 (l:List aC):o7 l (gG l):=by have:o7 [] []:=⟨by simp,by simp,by simp,rfl⟩;exact this.fold (l:=l)
theorem aOB (s:aF):Pure P 259 [s.a] (.agg [.u s.must,.u s.can,.u s.on]):=by
 refine aW Tryz.func259 rfl rfl (by simp [Tryz.f259]) (by simp [aE,aE.bndL,aF.a,aF.cs]) (by simp [aE,aE.bndL]) fun B hB hnx=>?_
 simp only [Tryz.f259] at hB ⊢;refine aD ?_;simp [go_sem,aF.a,aF.cs]
theorem bCS:P.eqGuardType P.depth 239=false:=by kernel_rfl
theorem aO0 (a b:aC):Pure P 231 [a.a,b.a] (.b (a.than b)):=by
 generalize hR:a.than b=R;refine aW Tryz.func231 rfl rfl (by simp [Tryz.f231]) (by simp [aE,aE.bndL,aC.a,aC.cs]) (by simp [aE,aE.bndL]) fun B hB hnx=>?_
 simp only [Tryz.f231] at hB ⊢;have hs1:=aOB a.s;have hs2:=aOB b.s;have hc:=aHN a.s b.s;rw [aC.than] at hR;refine aD ?_;simp [go_sem,aC.a,aC.cs];refine bK [] rfl (by rw [hB];kernel_rfl) ?_;by_cases c1:a.cost≤b.cost
 ·rw [decide_eq_true c1,Bool.true_and] at hR;refine aD ?_;simp [go_sem,c1];refine bQ rfl rfl rfl (args:=[a.s.a]) (f:=259) (by simp [go_sem,aF.a,aF.cs]) (hs1) ?_;refine aD ?_;simp [go_sem];refine bQ rfl rfl rfl (args:=[b.s.a]) (f:=259) (by simp [go_sem,aF.a,aF.cs]) (hs2) ?_;refine aD ?_;simp [go_sem];refine aP9 (x:=.tmp 13) (y:=.tmp 16) (a:=a.s.must) (b:=a.s.can) (c:=a.s.on) (a':=b.s.must) (b':=b.s.can) (c':=b.s.on) rfl rfl (by simp [go_sem]) (by simp [go_sem]) bCS (e:=89) (by kernel_rfl) (Option.some_get (show (P.info? 89).isSome=true by kernel_rfl)).symm (by kernel_rfl) (by kernel_rfl) (by kernel_rfl) ?_;have he:(((a.s.must:Int)==(b.s.must:Int))&&(((a.s.can:Int)==(b.s.can:Int))&&((a.s.on:Int)==(b.s.on:Int))))=(decide (a.s.must=b.s.must)&&decide (a.s.can=b.s.can)&&decide (a.s.on=b.s.on)):=by rw [Bool.eq_iff_iff];simp only [Bool.and_eq_true,beq_iff_eq,decide_eq_true_eq,and_assoc];omega
  rw [he];cases c2:(decide (a.s.must=b.s.must)&&decide (a.s.can=b.s.can)&&decide (a.s.on=b.s.on)) with
  |false=>rw [c2,Bool.false_and] at hR;subst hR;refine aD ?_;simp [go_sem]
  |true=>rw [c2,Bool.true_and] at hR;rw [hR] at hc;refine aD ?_;simp [go_sem];refine bQ rfl rfl rfl (args:=[a.s.a,b.s.a]) (f:=207) (by simp [go_sem,aF.a,aF.cs]) (hc) ?_;refine aD ?_;simp [go_sem]
 ·rw [decide_eq_false c1,Bool.false_and] at hR;subst hR;refine aD ?_;simp [go_sem,c1]
theorem aU7 (a b:aC) {σ:Nat→aG} {nx q:Nat} (hq:q<nx) (hb:σ q= .box b.cs):aT P 230 [a.a,.ptr q 0] σ nx (.b (a.than b)) σ nx:=by
 have hth:=aO0 a b;have e:σ=aB σ q (σ q):=by funext i;by_cases h:i=q<;>simp [aB,h]
 have h:aT P 230 [a.a,.ptr q 0] σ nx (.b (a.than b)) (aB σ q (σ q)) nx:=by
  refine fO Tryz.func230 rfl rfl (by simp [Tryz.f230]) hq (by rw [hb];simp [dG,aE,aE.bndL,aC.cs]) (by simp [aE]) fun hk B hB hnx hσ=>?_
  simp only [Tryz.f230] at hB ⊢;have hne:¬q=nx:=by omega
  refine aD ?_;simp [go_sem,aC.a,aC.cs,hb,hne];refine aL rfl rfl rfl (args:=[a.a,b.a]) (f:=231) (by simp [go_sem,aC.a,aC.cs]) (by simp [go_sem,hB]) ((hth).spec _ _) ?_;refine aD ?_;simp [go_sem];exact ⟨by simp [hne,hb,aC.cs],fun i h1 h2 h3=>by omega⟩
 rw [←e] at h;exact h
theorem aU9 (a b:aC) {σ:Nat→aG} {nx q:Nat} (hq:q<nx) (hb:σ q= .box b.cs):aT P 233 [a.a,.ptr q 0] σ nx (.b (b.than a)) σ nx:=by
 have hth:=aO0 b a;have e:σ=aB σ q (σ q):=by funext i;by_cases h:i=q<;>simp [aB,h]
 have h:aT P 233 [a.a,.ptr q 0] σ nx (.b (b.than a)) (aB σ q (σ q)) nx:=by
  refine fO Tryz.func233 rfl rfl (by simp [Tryz.f233]) hq (by rw [hb];simp [dG,aE,aE.bndL,aC.cs]) (by simp [aE]) fun hk B hB hnx hσ=>?_
  simp only [Tryz.f233] at hB ⊢;have hne:¬q=nx:=by omega
  refine aD ?_;simp [go_sem,aC.a,aC.cs,hb,hne];refine aL rfl rfl rfl (args:=[b.a,a.a]) (f:=231) (by simp [go_sem,aC.a,aC.cs]) (by simp [go_sem,hB]) ((hth).spec _ _) ?_;refine aD ?_;simp [go_sem];exact ⟨by simp [hne,hb,aC.cs],fun i h1 h2 h3=>by omega⟩
 rw [←e] at h;exact h
def lA (p:aC→Bool):Nat→List aC→Int
 |_,[]=>-1
 |i,n :: l=>if p n=true then (i:Int) else lA p (i+1) l
theorem aJU (p:aC→Bool):∀(i:Nat) (l:List aC),(0≤lA p i l)↔l.any p=true
 |_,[]=>by simp [lA]
 |i,n :: l=>by
  rw [lA,List.any_cons];cases h:p n with
  |true=>simp
  |false=>simp [aJU p (i+1) l]
theorem aJ2 (F:List aC) (p:aC→Bool) {σ:Nat→aG} {nx r q:Nat} {f:FuncId} (hr:σ r= .arr 10 (aM F)) (hF:F.length<2^31) (hf:∀n,aT P f [n.a,.ptr q 0] σ nx (.b (p n)) σ nx):
  aT P 258 [.ref r,.fn (.func f) [] [.ptr q 0]] σ nx (.i (lA p 0 F)) σ nx:=by
 generalize hR:lA p 0 F=R;refine bN.spec (cA Tryz.func258 rfl rfl (by simp [Tryz.f258]) fun B hB hnx hσ=>?_);simp only [Tryz.f258] at hB ⊢;have hil:(aM F).length=F.length:=List.length_map _;have hgt:∀(k:Nat) (h:k<F.length),(aM F)[k]'(by rw [hil];exact h)=F[k].t:=fun k h=>jX F h
 refine aD ?_;simp [go_sem,hr,hil];refine bA (α:=Nat) (fun k=>k≤F.length∧lA p k (F.drop k)=R) (fun k=>⟨sl [(1,.fn (.func f) [] [.ptr q 0]),(0,.ref r),(7,.i F.length),(8,.i k)],σ,nx⟩) (fun k=>F.length-k) 0 ⟨Nat.zero_le _,hR⟩ (aH.slots (by simp [go_sem]) rfl rfl) ?_;rintro k ⟨g1,g2⟩;refine aI ?_;simp [go_sem];refine bU (fun hk=>?_) (fun hk=>?_)
 ·have hkk:IntKind.i64.wrap ((k:Int)+1)=((k+1:Nat):Int):=by rw [aO ((k:Int)+1) (by omega)];rfl
  have hget:∀h:k<(aM F).length,(aM F)[k]'h=F[k].t:=fun h=>hgt k hk
  rw [List.drop_eq_getElem_cons hk,lA] at g2;generalize F[k]=n at *;have hp:=hf n;have q1:k*10 / 10=k:=by omega
  have q4:k*10 % 10=0:=by omega
  simp [go_sem,hr,hil,hk,hget,q1,q4,aC.t];refine aL rfl rfl rfl (args:=[n.a,.ptr q 0]) (f:=f) (by simp [go_sem,aC.a,aC.cs]) (by simp [go_sem,hB]) hp ?_;cases h:p n with
  |true=>rw [h,if_pos rfl] at g2;subst g2;refine aD ?_;simp [go_sem]
  |false=>rw [h,if_neg (by simp)] at g2;refine aD ?_;simp [go_sem,hkk];exact Next.mk (k+1) ⟨by omega,g2⟩ (aH.slots (by simp [go_sem]) rfl rfl) (by omega)
 ·have:k=F.length:=by omega
  subst this;rw [List.drop_length,lA] at g2;subst g2;simp [go_sem]
theorem aTC (F:List aC) (p:aC→Bool) {σ:Nat→aG} {nx r q:Nat} {f:FuncId} (hr:σ r= .arr 10 (aM F)) (hF:F.length<2^31) (hf:∀n,aT P f [n.a,.ptr q 0] σ nx (.b (p n)) σ nx):
  aT P 229 [.ref r,.fn (.func f) [] [.ptr q 0]] σ nx (.b (F.any p)) σ nx:=by
 have hi:=aJ2 F p hr hF hf;have ha:=aJU p 0 F;refine bN.spec (cA Tryz.func229 rfl rfl (by simp [Tryz.f229]) fun B hB hnx hσ=>?_);simp only [Tryz.f229] at hB ⊢;generalize lA p 0 F=i at *;refine aD ?_;simp [go_sem];refine aL rfl rfl rfl (args:=[.ref r,.fn (.func f) [] [.ptr q 0]]) (f:=258) (by simp [go_sem]) (by simp [go_sem,hB]) hi ?_;refine aD ?_;simp [go_sem];rw [Bool.eq_iff_iff,decide_eq_true_eq];exact ha
theorem aJV (p:aC→Bool):∀(i:Nat) (l:List aC),(lA p i l= -1∧l.filter (fun n=>!p n)=l)∨∃k,∃h:k<l.length,lA p i l=((i+k:Nat):Int)∧p l[k]=true∧(l.take k).filter (fun n=>!p n)=l.take k
 |i,[]=>.inl ⟨rfl,rfl⟩
 |i,n :: l=>by
  rw [lA];cases h:p n with
  |true=>exact .inr ⟨0,by simp,by simp,by simpa using h,by simp⟩
  |false=>
   simp only [Bool.false_eq_true,if_false];rcases aJV p (i+1) l with ⟨h1,h2⟩ | ⟨k,hk,h1,h2,h3⟩
   ·exact .inl ⟨h1,by rw [List.filter_cons,h];simp [h2]⟩
   ·exact .inr ⟨k+1,by simpa using hk,by rw [h1];congr 1;omega,by simpa using h2,by rw [List.take_succ_cons,List.filter_cons,h];simp [h3]⟩
theorem aT3 (F:List aC) (p:aC→Bool) {σ:Nat→aG} {nx r q:Nat} {f:FuncId} (hr:σ r= .arr 10 (aM F)) (hrn:r<nx) (hq:q<nx) (hrq:q≠r) (hF:F.length<2^31) (hf:∀n σ' nx',σ' q=σ q→nx≤nx'→aT P f [n.a,.ptr q 0] σ' nx' (.b (p n)) σ' nx'):
  bN P 232 [.ref r,.fn (.func f) [] [.ptr q 0]] σ nx fun v σ' nx'=>∃g,v= .ref g∧σ' g= .arr 10 (aM (F.filter fun n=>!p n))∧nx≤nx'∧g<nx'∧(g=r∨nx≤g)∧∀i,i<nx→i≠r→σ' i=σ i:=by
 have hi:=aJ2 F p (q:=q) hr hF fun n=>hf n σ nx rfl (Nat.le_refl _)
 have hc:=aJV p 0 F;refine cA Tryz.func232 rfl rfl (by simp [Tryz.f232]) fun B hB hnx hσ=>?_
 simp only [Tryz.f232] at hB ⊢;refine aD ?_;simp [go_sem];refine aL rfl rfl rfl (args:=[.ref r,.fn (.func f) [] [.ptr q 0]]) (f:=258) (by simp [go_sem]) (by simp [go_sem,hB]) hi ?_;rcases hc with ⟨h1,h2⟩ | ⟨k,hk,h1,h2,h3⟩
 ·rw [h1,h2];refine aD ?_;simp [go_sem];exact ⟨hr,hrn⟩
 ·rw [Nat.zero_add] at h1;rw [h1];have hkk:IntKind.i64.wrap ((k:Int)+1)=((k+1:Nat):Int):=by rw [aO ((k:Int)+1) (by omega)];rfl
  have hk1:¬(k:Int)= -1:=by omega
  refine aD ?_;simp [go_sem,hkk,hk1]
  refine bA (α:=Nat×Nat×List aC×(Nat→aG)×Nat) (fun (j,i,X,σ1,n1)=>j≤F.length∧i<j∧X.length=F.length∧X.take i=(F.take j).filter (fun n=>!p n)∧X.drop j=F.drop j∧σ1 r= .arr 10 (aM X)∧nx≤n1∧∀a,a<nx→a≠r→σ1 a=σ a)
   (fun (j,i,X,σ1,n1)=>⟨sl [(0,.ref r),(1,.fn (.func f) [] [.ptr q 0]),(5,.i i),(6,.i j)],σ1,n1⟩) (fun a=>F.length-a.1) (k+1,k,F,σ,nx) ?_ (aH.slots (by simp [go_sem]) rfl rfl) ?_
  ·refine ⟨by omega,by omega,rfl,?_,rfl,hr,Nat.le_refl _,fun a _ _=>rfl⟩;rw [List.take_succ_eq_append_getElem hk,List.filter_append,h3];simp [h2]
  rintro ⟨j,i,X,σ1,n1⟩ ⟨g1,g2,g3,g4,g5,g6,g7,g8⟩;have hil:(aM X).length=X.length:=List.length_map _;refine aI ?_;simp [go_sem,g6,hil,g3];refine bU (fun hj=>?_) (fun hj=>?_)
  ·have hjj:IntKind.i64.wrap ((j:Int)+1)=((j+1:Nat):Int):=by rw [aO ((j:Int)+1) (by omega)];rfl
   have hii:IntKind.i64.wrap ((i:Int)+1)=((i+1:Nat):Int):=by rw [aO ((i:Int)+1) (by omega)];rfl
   have hjX:j<X.length:=by omega
   have hXj:X[j]=F[j]:=by have e1:=List.drop_eq_getElem_cons hjX;have e2:=List.drop_eq_getElem_cons hj;rw [g5,e2] at e1;exact (List.cons.inj e1).1.symm
   have hget:∀h:j<(aM X).length,(aM X)[j]'h=F[j].t:=fun h=>by rw [jX X hjX,hXj]
   have htk:=List.take_succ_eq_append_getElem hj;have hdr:X.drop (j+1)=F.drop (j+1):=by have e1:=List.drop_eq_getElem_cons hjX;have e2:=List.drop_eq_getElem_cons hj;rw [g5,e2] at e1;exact (List.cons.inj e1).2.symm
   generalize F[j]=m at *;have q1:j*10 / 10=j:=by omega
   have q4:j*10 % 10=0:=by omega
   have hrn1:¬r=n1:=by omega
   have hqn1:¬q=n1:=by omega
   have hiX:i<X.length:=by omega
   have hgi:∀h:i<(aM X).length,(aM X)[i]'h=X[i].t:=fun h=>jX X hiX
   have hiF:i<F.length:=by omega
   have q5:i*10 / 10=i:=by omega
   have q6:i*10 % 10=0:=by omega
   have hσq:(aB (aB σ1 n1 (.box [.i 0,.i 0,.i 0,.i 0,.i 0,.u 0,.u 0,.u 0,.i 0,.fsl []])) n1 (.box m.cs)) q=σ q:=by simp [aB,hqn1,g8 q hq hrq]
   have hfm:=hf m _ (n1+1) hσq (by omega);simp [go_sem,g6,hil,hj,hjX,hget,q1,q4,aC.t,g3];refine aL rfl rfl rfl (args:=[m.a,.ptr q 0]) (f:=f) (by simp [go_sem,aC.a,aC.cs]) (by simp [go_sem,hB]) (hf m _ _ (by simp [aB,hqn1,g8 q hq hrq]) (by simp only;omega)) ?_;cases h:p m with
   |true=>
    refine aD ?_;simp [go_sem,hjj];refine Next.mk (j+1,i,X,_,n1+1) ?_ (aH.slots (by simp [go_sem]) rfl rfl) (by simp only;omega);refine ⟨by simp only;omega,by simp only;omega,g3,?_,hdr,?_,by simp only;omega,fun a h1 h2=>?_⟩
    ·rw [htk,List.filter_append,g4];simp [h]
    ·simp [aB,hrn1,g6]
    ·simp [aB,show ¬a=n1 by omega,g8 a h1 h2]
   |false=>
    refine aD ?_;simp [go_sem,hjj,hii,g6,hil,g3,hrn1,hiF,hiX,hgi,q5,q6,aC.t];refine Next.mk (j+1,i+1,X.set i m,_,n1+1) ?_ (aH.slots (by simp [go_sem]) rfl rfl) (by simp only;omega);refine ⟨by simp only;omega,by simp only;omega,by simp only [List.length_set];exact g3,?_,?_,?_,by simp only;omega,fun a h1 h2=>?_⟩
    ·rw [htk,List.filter_append,←g4,List.take_succ_eq_append_getElem (by rw [List.length_set];exact hiX),List.take_set,List.set_eq_of_length_le (by rw [List.length_take];omega)];simp [h]
    ·rw [List.drop_set_of_lt (by omega)];exact hdr
    ·simp [aB,aM,aC.t,List.map_set]
    ·simp [aB,h2,show ¬a=n1 by omega,g8 a h1 h2]
  ·have:j=F.length:=by omega
   subst this;rw [List.take_length] at g4;have hz0:∀es:List (List T),∀z,((aM X).take i++List.replicate ((aM X).length-i) z).take i=(aM X).take i:=fun _ z=>by rw [List.take_append_of_le_length (by rw [List.length_take];omega),List.take_take,Nat.min_self]
   simp [go_sem];refine aP5 (ik:=.i64) (x:=.tmp 36) (ix:=.tmp 37) (d1:=38) (q:=r) (n:=i) (es:=aM X) (z:=[.i 0,.i 0,.i 0,.i 0,.i 0,.v (.int .u64 0),.v (.int .u64 0),.v (.int .u64 0),.i 0,.sl []]) rfl rfl rfl rfl rfl rfl rfl rfl (by simp [go_sem,hB]) rfl tT rfl aFG rfl (by simp [go_sem]) g6 (by simp [go_sem]) (by omega) (by omega) ?_;refine aD ?_;simp [go_sem];have hlen2:((aM X).take i++List.replicate ((aM X).length-i) ([.i 0,.i 0,.i 0,.i 0,.i 0,.v (.int .u64 0),.v (.int .u64 0),.v (.int .u64 0),.i 0,.sl []]:List T)).length=F.length:=by rw [List.length_append,List.length_take,List.length_replicate];omega
   refine aQF (ik:=.i64) (x:=.tmp 39) (ix:=.tmp 40) (q:=r) (n:=i) (sz:=10) rfl rfl (by simp [go_sem,hB]) tT rfl aFG (by simp [go_sem]) (by simp [aB];rfl) (by simp [go_sem]) (by rw [hlen2];omega) (by rw [hlen2];omega) ?_;rw [hz0 [] _];have hti:(aM X).take i=aM (X.take i):=by simp [aM,List.map_take]
   rw [hti,g4];refine aD ?_;simp [go_sem];refine ⟨by omega,by omega,fun a h1 h2=>?_⟩;simp [h2,show ¬a=n1 by omega,g8 a h1 h2]
theorem aU6 (out:List aC) (b:aC):(jE out b).length≤out.length+1:=by
 unfold jE;split
 ·omega
 ·have:=List.length_filter_le (fun a=>!b.than a) out;rw [List.length_append,List.length_cons,List.length_nil];omega
theorem aVA (l:List aC) (hl:l.length<2^31) (hn:∀n∈l,n.path.length<2^31):Pure P 194 [.t (.sl (aM l))] (.t (.sl (aM (gG l)))):=by
 generalize hR:gG l=R;refine aW Tryz.func194 rfl rfl (by simp [Tryz.f194]) (by simp [aE,aE.bndL]) (by simp [aE,aE.bndL]) fun B hB hnx=>?_
 simp only [Tryz.f194] at hB ⊢;have hil:(aM l).length=l.length:=List.length_map _;have hgt:∀(k:Nat) (h:k<l.length),(aM l)[k]'(by rw [hil];exact h)=l[k].t:=fun k h=>jX l h
 generalize hX:aM l=X at *;have hmost:bH=4294967296:=rfl;rw [gG] at hR;refine aD ?_;simp [go_sem,hil];refine jC 3 10 (by simp [go_sem]) ?_
 refine bA (α:=Nat×List aC×Nat×(Nat→aG)×Nat) (fun (k,out,a,σ,nx)=>k≤l.length∧(l.drop k).foldl jE out=R∧out.length≤k∧σ a= .arr 10 (aM out)∧a<nx)
  (fun (k,out,a,σ,nx)=>⟨sl [(3,.ref a),(6,.t (.sl X)),(7,.i l.length),(8,.i k)],σ,nx⟩) (fun a=>l.length-a.1) (0,[],0,_,1) ?_ (aH.slots (by simp [go_sem,hil]) rfl rfl) ?_
 ·exact ⟨Nat.zero_le _,hR,Nat.le_refl _,by simp [aB,aM],by omega⟩
 rintro ⟨k,out,a,σ,nx⟩ ⟨g1,g2,g3,g4,g5⟩;refine aI ?_;simp [go_sem];refine bU (fun hk=>?_) (fun hk=>?_)
 ·have hkk:IntKind.i64.wrap ((k:Int)+1)=((k+1:Nat):Int):=by rw [aO ((k:Int)+1) (by omega)];rfl
  have hget:∀h:k<X.length,X[k]'h=l[k].t:=fun h=>hgt k hk
  rw [List.drop_eq_getElem_cons hk,List.foldl_cons] at g2;have hpath:=hn l[k] (List.getElem_mem _);generalize l[k]=m at *;have hcl:=sF m.path (by omega);have hfr:jE out m=if out.any (fun a=>a.than m)=true then out else (out.filter fun a=>!m.than a)++[m]:=rfl
  have hfl:=aU6 out m;have ha:¬a=nx:=by omega
  simp [go_sem,hil,hk,hget,aC.t];refine aL rfl rfl rfl (args:=[.ref a,.fn (.func 230) [] [.ptr nx 0]]) (f:=229) (by simp [go_sem]) (by simp [go_sem,hB]) (aTC out (fun c=>c.than m) (by simp [aB,ha,g4]) (by omega) fun c=>aU7 c m (by simp only;omega) (by simp [aB,aC.cs])) ?_;cases hany:out.any (fun c=>c.than m) with
  |true=>rw [hany,if_pos rfl] at hfr;rw [hfr] at g2;refine aD ?_;simp [go_sem,hkk];exact Next.mk (k+1,out,a,_,nx+1) ⟨by simp only;omega,g2,by simp only;omega,by simp [aB,ha,g4],by simp only;omega⟩ (aH.slots (by simp [go_sem]) rfl rfl) (by simp only;omega)
  |false=>
   rw [hany,if_neg (by simp)] at hfr;rw [hfr] at g2 hfl;refine aD ?_;simp [go_sem];refine dX rfl rfl rfl (args:=[.ref a,.fn (.func 233) [] [.ptr nx 0]]) (f:=232) (by simp [go_sem]) (by simp [go_sem,hB]) (aT3 out (fun c=>m.than c) (by simp [aB,ha,g4]) (by simp only;omega) (by simp only;omega) (by omega) (by omega) fun c σ' nx' h1 h2=>aU9 c m (by simp only at h2;omega) (by rw [h1];simp [aB,aC.cs])) ?_;rintro v σ2 n2 ⟨g,rfl,d1,d2,d3,d4,d5⟩;have e1:σ2 nx= .box m.cs:=by rw [d5 nx (by simp only;omega) (by omega)];simp [aB,aC.cs]
   simp only at d2 d4;have hgn:¬g=nx:=by omega
   generalize (out.filter fun c=>!m.than c)=O at *;refine aD ?_;simp [go_sem,e1,aC.cs];refine aL rfl rfl rfl (args:=[.t (.sl (aJ m.path))]) (f:=93) (by simp [go_sem]) (by simp [go_sem,hB]) (hcl _ _) ?_;obtain ⟨σ5,hσ5⟩:∃σ5:Nat→aG,σ5=fun j=>if j=n2 then aG.dead else dC n2 (aJ m.path) (aB σ2 n2 (.arr 1 (aJ m.path)) j):=⟨_,rfl⟩
   have f1:σ5 nx= .box m.cs:=by simp [hσ5,aB,show ¬nx=n2 by omega,e1,dC,bB,bB.frzL,aC.cs]
   have f2:σ5 g= .arr 10 (aM O):=by simp [hσ5,aB,show ¬g=n2 by omega,d1,dC]
   have hlO:(aM O).length=O.length:=List.length_map _;have hcap:O.length+1≤bH:=by rw [List.length_append,List.length_cons,List.length_nil] at hfl;omega
   refine iB ((aH.freeze (q:=n2) (sz:=1) (es:=aJ m.path) (by simp [aB])).trans (aH.slots (l:=[(3,.ref g),(5,.ptr nx 0),(6,.t (.sl X)),(7,.i l.length),(8,.i k),(20,.t (.sl (aJ m.path)))]) (by simp [go_sem,bB,bB.frzL,show ¬g=n2 by omega]) hσ5 rfl)) ?_;refine aD ?_;simp [go_sem,f1,f2,aC.cs,hgn,hlO,hcap,hkk];refine Next.mk (k+1,O++[m],n2+1,_,n2+2) ?_ (aH.slots (by simp [go_sem]) rfl rfl) (by simp only;omega);refine ⟨by simp only;omega,g2,by simp only;omega,?_,by simp only;omega⟩;simp [aB,aM,aC.t]
 ·have:k=l.length:=by omega
  subst this;rw [List.drop_length,List.foldl_nil] at g2;subst g2;simp [go_sem,g4]
def aA.sortN (x:aA) (l:List aC):List aC:=aU x.of l
def aA.keyT (x:aA) (n:aC):List T:=n.t++[.i (x.of n)]
theorem aA.keys_sort (x:aA) (l:List aC):aU aP (l.map x.keyT)=(x.sortN l).map x.keyT:=by rw [←aJ8 (κ:=aP) x.keyT l];congr 2
theorem aA.sortN_len (x:aA) (l:List aC):(x.sortN l).length=l.length:=mO l
theorem aA.sortN_mem {x:aA} {l:List aC} {n:aC}:n∈x.sortN l↔n∈l:=pM
theorem bDP (x:aA) (n:aC) (hl:x.stops.length<2^31) (ho:n.s.ok) {σ:Nat→aG} {nx q:Nat} (hq:q<nx) (hb:σ q= .box x.cs):aT P 189 [n.a,.ptr q 0] σ nx (.i (x.of n)) σ nx:=by
 have hth:=aDM x n hl ho;have e:σ=aB σ q (σ q):=by funext i;by_cases h:i=q<;>simp [aB,h]
 have h:aT P 189 [n.a,.ptr q 0] σ nx (.i (x.of n)) (aB σ q (σ q)) nx:=by
  refine fO Tryz.func189 rfl rfl (by simp [Tryz.f189]) hq (by rw [hb];simp [dG,aE,aE.bndL,aA.cs]) (by simp [aE]) fun hk B hB hnx hσ=>?_
  simp only [Tryz.f189] at hB ⊢;have hne:¬q=nx:=by omega
  refine aD ?_;simp [go_sem,aC.a,aC.cs,hb,hne,aA.cs];refine aL rfl rfl rfl (args:=[x.a,n.a]) (f:=84) (by simp [go_sem,aA.a,aC.a,aC.cs]) (by simp [go_sem,hB]) ((hth).spec _ _) ?_;refine aD ?_;simp [go_sem];exact ⟨by simp [hne,hb,aA.cs],fun i h1 h2 h3=>by omega⟩
 rw [←e] at h;exact h
theorem bDQ (x:aA) (l:List aC) (hx:x.stops.length<2^31) (hl:l.length<2^31) (ho:∀n∈l,n.s.ok) {σ:Nat→aG} {nx q:Nat} (hq:q<nx) (hb:σ q= .box x.cs):
  aT P 188 [.t (.sl (aM l)),.fn (.func 189) [] [.ptr q 0]] σ nx (.t (.sl (aM (x.sortN l)))) (aB σ q (.box x.cs)) nx:=by
 refine fO Tryz.func188 rfl rfl (by simp [Tryz.f188]) hq (by simp [dG,aE,aE.bndL,aA.cs]) (by simp [aE,aE.bndL]) fun hk0 B hB hnx hσ=>?_
 simp only [Tryz.f188] at hB ⊢;refine tW ?_;generalize hpost:(fun (e:Exit) (s:St)=>∃t,aH B s t∧_)=post;have hil:(aM l).length=l.length:=List.length_map _;have hgt:∀(k:Nat) (h:k<l.length),(aM l)[k]'(by rw [hil];exact h)=l[k].t:=fun k h=>jX l h
 generalize hX:aM l=X at *;have hmost:bH=4294967296:=rfl;obtain ⟨K,hK⟩:∃K,K=l.map x.keyT:=⟨_,rfl⟩;have hKl:K.length=l.length:=by rw [hK,List.length_map]
 refine aD ?_;simp [go_sem,hil];refine jC 5 11 (by simp [go_sem]) ?_
 refine bA (α:=Nat×Nat×(Nat→aG)×Nat) (fun (k,a,σ',ny)=>k≤l.length∧σ' a= .arr 11 (K.take k)∧nx≤a∧a<ny∧σ' q= .box x.cs∧∀i,i<nx→i≠q→σ' i=σ i)
  (fun (k,a,σ',ny)=>⟨sl [(1,.fn (.func 189) [] [.ptr q 0]),(5,.ref a),(11,.t (.sl X)),(12,.i l.length),(13,.i k)],σ',ny⟩) (fun a=>l.length-a.1) (0,nx,_,nx+1) ?_ (aH.slots (by simp [go_sem,hil]) rfl rfl) ?_
 ·exact ⟨Nat.zero_le _,by simp [aB],Nat.le_refl _,by omega,by simp [aB,show ¬q=nx by omega,hb],fun i h1 h2=>by simp [aB,show ¬i=nx by omega]⟩
 rintro ⟨k,a,σ',ny⟩ ⟨g1,g2,g3,g4,g5,g6⟩;refine aI ?_;simp [go_sem];refine bU (fun hk=>?_) (fun hk=>?_)
 ·have hkk:IntKind.i64.wrap ((k:Int)+1)=((k+1:Nat):Int):=by rw [aO ((k:Int)+1) (by omega)];rfl
  have hget:∀h:k<X.length,X[k]'h=l[k].t:=fun h=>hgt k hk
  have hmem:=ho l[k] (List.getElem_mem _);have htk:K.take (k+1)=K.take k++[x.keyT l[k]]:=by rw [List.take_add_one,List.getElem?_eq_getElem (by omega)];simp [hK]
  have hkl:(K.take k).length=k:=by rw [List.length_take];omega
  generalize K.take k=Kk at *;generalize l[k]=n at *;have ha:¬a=ny:=by omega
  have hqn:¬q=ny:=by omega
  have hs1:=fun σ'' (h:σ'' q= .box x.cs)=>bDP x n hx hmem (σ:=σ'') (nx:=ny+1) (q:=q) (by omega) h
  have hcap:k+1≤bH:=by omega
  simp [go_sem,hil,hk,hget,aC.t];refine cT [4,7] [0,1] rfl (by rw [hB];kernel_rfl) (by kernel_rfl) fun ht hf'=>?_
  refine bG hB 4 ?_;simp [go_sem,ht,hf',aC.cs];refine o8 rfl rfl rfl (args:=[n.a,.ptr q 0]) (f:=189) (by simp [go_sem,aC.a,aC.cs]) (hs1 _ (by simp [aB,hqn,g5])) (by decide) (oK (by simp [go_sem,aC.cs])) ?_;refine aD ?_;simp [go_sem,ht,hf',g2,ha,hkl,hcap,hkk,show ¬ny=a by omega];refine Next.mk (k+1,ny+1,_,ny+2) ?_ (aH.slots (by simp [go_sem]) rfl rfl) (by simp only;omega);exact ⟨by simp only;omega,by simp [aB,htk,aA.keyT,aC.t],by simp only;omega,by simp only;omega,by simp [aB,hqn,g5,show ¬q=a by omega,show ¬q=ny+1 by omega],fun i h1 h2=>by simp [aB,show ¬i=ny by omega,show ¬i=a by omega,show ¬i=ny+1 by omega,g6 i h1 h2]⟩
 ·have:k=l.length:=by omega
  subst this;rw [←hKl,List.take_length,hK] at g2
  have hS:=bDO (l.map x.keyT) (fun e he=>by
   obtain ⟨n,_,rfl⟩:=List.mem_map.1 he
   exact ⟨n,x.of n,rfl⟩) (by rw [List.length_map];exact hl) (nx:=ny) g4 g2
  rw [x.keys_sort] at hS;have hL:=x.sortN_len l;generalize x.sortN l=S at *;have hkl:(S.map x.keyT).length=l.length:=by rw [List.length_map,hL]
  have hkg:∀(k:Nat) (h:k<l.length),(S.map x.keyT)[k]'(by rw [hkl];exact h)=(S[k]'(by rw [hL];exact h)).t++[.i (x.of (S[k]'(by rw [hL];exact h)))]:=fun k h=>by rw [List.getElem_map];rfl
  simp [go_sem];refine aD ?_;simp [go_sem];refine aL rfl rfl rfl (args:=[.ref a,cU]) (f:=225) (by simp [go_sem]) (by simp [go_sem,hB]) hS ?_;refine aD ?_;simp [go_sem,hkl];refine jC 8 10 (by simp [go_sem]) ?_;have hqa:¬q=a:=by omega
  have hany:¬a=ny:=by omega
  refine bA (α:=Nat×Nat×(Nat→aG)×Nat) (fun (k,c,τ,nz)=>k≤l.length∧τ c= .arr 10 (aM (S.take k))∧τ a= .arr 11 (S.map x.keyT)∧nx≤c∧c<nz∧a<nz∧c≠a∧τ q= .box x.cs∧∀i,i<nx→i≠q→τ i=σ i)
   (fun (k,c,τ,nz)=>⟨sl [(8,.ref c),(28,.ref a),(29,.i l.length),(30,.i k)],τ,nz⟩) (fun a=>l.length-a.1) (0,ny,_,ny+1) ?_ (aH.slots (by simp [go_sem,hkl]) rfl rfl) ?_
  ·exact ⟨Nat.zero_le _,by simp [aB,aM],by simp [aB,hany],by omega,by omega,by omega,by omega,by simp [aB,show ¬q=ny by omega,hqa,g5],fun i h1 h2=>by simp [aB,show ¬i=ny by omega,show ¬i=a by omega,g6 i h1 h2]⟩
  clear hS g1 g2 g5 g6;rintro ⟨k,c,τ,nz⟩ ⟨g1,g2,g7,g8,g9,ga,gb,g5,g6⟩;refine aI ?_;simp [go_sem];refine bU (fun hk=>?_) (fun hk=>?_)
  ·have hkk:IntKind.i64.wrap ((k:Int)+1)=((k+1:Nat):Int):=by rw [aO ((k:Int)+1) (by omega)];rfl
   have hkS:k<S.length:=by omega
   have htk:S.take (k+1)=S.take k++[S[k]]:=by rw [List.take_add_one,List.getElem?_eq_getElem hkS];rfl
   have hget:∀h:k<(S.map x.keyT).length,(S.map x.keyT)[k]'h=S[k].t++[.i (x.of S[k])]:=fun h=>hkg k hk
   have htl:(aM (S.take k)).length=k:=by rw [aM,List.length_map,List.length_take];omega
   have hcap:k+1≤bH:=by omega
   have q1:k*11 / 11=k:=by omega
   have q4:k*11 % 11=0:=by omega
   have hc:¬c=nz:=by omega
   generalize S[k]=n at *;simp [go_sem,g7,hkl,hk,hget,q1,q4,aC.t,g2,hc,htl,hcap,hkk];refine Next.mk (k+1,nz+1,_,nz+2) ?_ (aH.slots (by simp [go_sem]) rfl rfl) (by simp only;omega);exact ⟨by simp only;omega,by simp [aB,htk,aM,aC.t],by simp [aB,g7,show ¬a=nz by omega,show ¬a=c by omega,show ¬a=nz+1 by omega],by simp only;omega,by simp only;omega,by simp only;omega,by simp only;omega,by simp [aB,g5,show ¬q=nz by omega,show ¬q=c by omega,show ¬q=nz+1 by omega],fun i h1 h2=>by simp [aB,show ¬i=nz by omega,show ¬i=c by omega,show ¬i=nz+1 by omega,g6 i h1 h2]⟩
  ·have:k=l.length:=by omega
   subst this;rw [←hL,List.take_length] at g2;simp [go_sem];rw [←hpost];refine ⟨_,aH.freeze (q:=c) (sz:=10) (es:=aM S) (by simp [go_sem,g2]),.inl rfl,?_⟩;simp [go_sem,bB,dC,show ¬q=c by omega,g5];refine ⟨by omega,by simp [bB.frzL,bB,aA.cs],fun y hy hyq=>?_⟩;rw [if_neg (by omega),g6 y hy hyq];rcases hk0 y with e | ⟨e,_⟩
   ·rw [e]
   ·exact yC (q:=c) (es:=aM S) (by omega) (σ y) e
theorem aOK (x:aA) (l:List aC) (hx:x.stops.length<2^31) (hl:l.length<2^31) (hn:∀n∈l,n.Fine):Pure P 139 [x.a,.t (.sl (aM l))] (.t (.sl (aM (x.sortN l)))):=by
 refine aW Tryz.func139 rfl rfl (by simp [Tryz.f139]) (by simp [aE,aE.bndL,aA.a]) (by simp [aE,aE.bndL]) fun B hB hnx=>?_
 simp only [Tryz.f139] at hB ⊢;have hil:(aM l).length=l.length:=List.length_map _;have hgt:∀(k:Nat) (h:k<l.length),(aM l)[k]'(by rw [hil];exact h)=l[k].t:=fun k h=>jX l h
 generalize hX:aM l=X at *;have hmost:bH=4294967296:=rfl;refine aD ?_;simp [go_sem,hil,aA.a];refine jC 5 10 (by simp [go_sem]) ?_
 refine bA (α:=Nat×Nat×(Nat→aG)×Nat) (fun (k,a,σ',ny)=>k≤l.length∧σ' a= .arr 10 (aM (l.take k))∧0<a∧a<ny∧σ' 0= .box x.cs)
  (fun (k,a,σ',ny)=>⟨sl [(2,.ptr 0 0),(5,.ref a),(8,.t (.sl X)),(9,.i l.length),(10,.i k)],σ',ny⟩) (fun a=>l.length-a.1) (0,1,_,2) ?_ (aH.slots (by simp [go_sem,hil]) rfl rfl) ?_
 ·exact ⟨Nat.zero_le _,by simp [aB,aM],by omega,by omega,by simp [aB,aA.cs]⟩
 rintro ⟨k,a,σ',ny⟩ ⟨g1,g2,g3,g4,g5⟩;refine aI ?_;simp [go_sem];refine bU (fun hk=>?_) (fun hk=>?_)
 ·have hkk:IntKind.i64.wrap ((k:Int)+1)=((k+1:Nat):Int):=by rw [aO ((k:Int)+1) (by omega)];rfl
  have hget:∀h:k<X.length,X[k]'h=l[k].t:=fun h=>hgt k hk
  have hfine:=hn l[k] (List.getElem_mem _);have htk:l.take (k+1)=l.take k++[l[k]]:=by rw [List.take_add_one,List.getElem?_eq_getElem hk];rfl
  have hkl:(aM (l.take k)).length=k:=by rw [aM,List.length_map,List.length_take];omega
  generalize l[k]=n at *;have ha:¬a=ny:=by omega
  have hown:=aDX n (by have:=hfine.len;omega);have hcap:k+1≤bH:=by omega
  simp [go_sem,hil,hk,hget,aC.t];refine aL rfl rfl rfl (args:=[n.a]) (f:=185) (by simp [go_sem,aC.a,aC.cs]) (by simp [go_sem,hB]) ((hown).spec _ _) ?_;refine aD ?_;simp [go_sem,aC.a,aC.cs,g2,ha,hkl,hcap,hkk];refine Next.mk (k+1,ny+1,_,ny+2) ?_ (aH.slots (by simp [go_sem]) rfl rfl) (by simp only;omega);exact ⟨by simp only;omega,by simp [aB,htk,aM,aC.t],by simp only;omega,by simp only;omega,by simp [aB,g5,show ¬0=ny by omega,show ¬0=a by omega]⟩
 ·have:k=l.length:=by omega
  subst this;rw [List.take_length] at g2;have hS:∀σ nx,0<nx→σ 0= .box x.cs→aT P 188 [.t (.sl (aM l)),.fn (.func 189) [] [.ptr 0 0]] σ nx (.t (.sl (aM (x.sortN l)))) (aB σ 0 (.box x.cs)) nx:=fun σ nx h1 h2=>bDQ x l hx hl (fun n h=>(hn n h).ok) h1 h2
  rw [hX] at hS;obtain ⟨σ5,hσ5⟩:∃σ5:Nat→aG,σ5=fun j=>if j=a then aG.dead else dC a X (σ' j):=⟨_,rfl⟩
  have f1:σ5 0= .box x.cs:=by simp [hσ5,show ¬0=a by omega,g5,dC,bB,bB.frzL,aA.cs]
  have hSS:=hS σ5 ny (by omega) f1;simp [go_sem];refine iB ((aH.freeze (q:=a) (sz:=10) (es:=X) (by simp [g2,hX])).trans (aH.slots (l:=[(2,.ptr 0 0),(20,.t (.sl X)),(21,.fn (.func 189) [] [.ptr 0 0])]) (by simp [go_sem,bB,bB.frzL]) hσ5 rfl)) ?_;refine aD ?_;simp [go_sem];refine aL rfl rfl rfl (args:=[.t (.sl X),.fn (.func 189) [] [.ptr 0 0]]) (f:=188) (by simp [go_sem]) (by simp [go_sem,hB]) hSS ?_;refine aD ?_;simp [go_sem]
theorem aHG {f:Nat→Bool}:∀{n k:Nat},k<n→f k=true→(k:Int)∈iE f n
 |n+1,k,h,hf=>by
  rw [iE,List.mem_append];by_cases e:k=n
  ·subst e;exact .inr (by rw [if_pos hf];simp)
  ·exact .inl (aHG (by omega) hf)
theorem aLD {x:aA} {s:aF} {j:Int} (h:(x.move s j).2.2=true):j∈x.moves s:=by
 have hm:x.may=true:=by
  by_cases e:j=0
  ·subst e;exact (lD h).1
  ·exact (iY h e).1
 obtain ⟨p,hx⟩:=x.fit hm;have h1:=hx.len;have h2:=hx.pairs
 have hj:0≤j∧j<x.stops.length:=by
  by_cases e:j=0
  ·omega
  ·have:=iY h e;omega
 rw [rE];have:((j.toNat:Nat):Int)=j:=by omega
 rw [←this];exact aHG (by omega) (by rw [this];exact h)
theorem aLK {x:aA} (hl:x.stops.length<2^31) (m:aC) (k:Int) (h0:0≤m.cost) (h1:m.cost+jI x.near m.s.can≤k) (hk:k≤1152921504606846976):x.of m≤k:=by have hin:=aXP (aDD x) m.s.can;rw [aA.of,aXR x m.s (by omega),rS h0 hin.1 (by omega)];exact h1
theorem aG0 (x:aA) (v:Int):∀(l:List aC) (b:aC×Bool),((∃n∈l,(x.endS n.s).2=true∧dL [n.cost,(x.endS n.s).1]=v)∨(b.2=true∧b.1.cost≤v))→(l.foldl x.best1 b).2=true∧(l.foldl x.best1 b).1.cost≤v
 |[],b,h=>by
  rcases h with ⟨n,h,_⟩ | h
  ·cases h
  ·exact h
 |n :: l,b,h=>by
  refine aG0 x v l (x.best1 b n) ?_
  have key:b.2=true∧b.1.cost≤v→(x.best1 b n).2=true∧(x.best1 b n).1.cost≤v:=by
   rintro ⟨h1,h2⟩;unfold aA.best1;split
   ·rename_i hc;refine ⟨rfl,?_⟩;rcases hc.2 with hc | hc
    ·rw [h1] at hc;cases hc
    ·simp only;omega
   ·exact ⟨h1,h2⟩
  rcases h with ⟨m,hm,h1,h2⟩ | h
  ·rcases List.mem_cons.1 hm with rfl | hm
   ·refine .inr ?_;unfold aA.best1;split
    ·exact ⟨rfl,by simp only;omega⟩
    ·rename_i hc
     have hb:b.2=true:=by
      cases e:b.2 with
      |true=>rfl
      |false=>exact absurd ⟨h1,.inl e⟩ hc
     refine ⟨hb,?_⟩;have:¬dL [m.cost,(x.endS m.s).1]<b.1.cost:=fun e=>hc ⟨h1,.inr e⟩
     omega
   ·exact .inl ⟨m,hm,h1,h2⟩
  ·exact .inr (key h)
theorem xM {x:aA} {l:List aC} {n:aC} (hn:n∈l) (he:(x.endS n.s).2=true):(x.bests l).2=true∧(x.bests l).1.cost≤dL [n.cost,(x.endS n.s).1]:=aG0 x _ l _ (.inl ⟨n,hn,he,rfl⟩)
def aA.base (x:aA) (s:aF):Nat:=((List.range (2*x.pairs.toNat+1)).filter fun j:Nat=>decide (1≤j)&& !cI s.must (j:Int)).length+(x.cars-s.car).toNat
theorem aR3 {x:aA} {s:aF} {j:Int} (h:(x.move s j).2.2=true):x.base (x.move s j).1<x.base s:=by
 by_cases e:j=0
 ·subst e;obtain ⟨_,_,h3,h4⟩:=lD h;rw [h4];simp only [aA.stayB,Bool.or_eq_false_iff,decide_eq_false_iff_not] at h3;simp only [aA.base,aA.homeS];have:=h3.1.1.2;omega
 ·obtain ⟨h1,h2,h3,h4,h5,_,_,h6⟩:=iY h e;obtain ⟨p,hx⟩:=x.fit h1;have:=hx.few;have:=hx.pairs;rw [h6];simp only [aA.lateB,Bool.or_eq_false_iff] at h5;simp only [aA.base,aA.rvisit];obtain ⟨k,rfl⟩:∃k:Nat,j=k:=⟨j.toNat,by omega⟩;refine Nat.add_lt_add_right (sN _ (a:=k) (List.mem_range.2 (by omega)) ?_ ?_ ?_) _
  ·rw [h5.1];simp only [Bool.not_false,Bool.and_true,decide_eq_true_eq];omega
  ·rw [rD (by omega)];simp
  ·intro b;rw [rD (by omega)];simp only [Bool.and_eq_true,Bool.not_eq_true',Bool.or_eq_false_iff];exact fun h=>⟨h.1,h.2.1⟩
def aA.meas (x:aA) (s:aF):Nat:=if x.may=true∧s.mayB x=true then x.base s else 0
theorem aC9 {x:aA} {s:aF} {j:Int} (h:(x.move s j).2.2=true):x.may=true∧s.mayB x=true:=by
 by_cases e:j=0
 ·subst e;exact ⟨(lD h).1,(lD h).2.1⟩
 ·exact ⟨(iY h e).1,(iY h e).2.1⟩
theorem sT {x:aA} {s:aF} {j:Int} (h:(x.move s j).2.2=true):x.meas (x.move s j).1<x.meas s:=by
 have h1:=aR3 h;have h2:=aC9 h;have:x.meas (x.move s j).1≤x.base (x.move s j).1:=by unfold aA.meas;split<;>omega
 have:x.meas s=x.base s:=by rw [aA.meas,if_pos h2]
 omega
theorem lQ (x:aA) (s:aF):x.meas s≤40:=by
 unfold aA.meas;split
 ·rename_i h;obtain ⟨p,hx⟩:=x.fit h.1;have h1:=hx.few;have h2:=hx.pairs;have h3:=hx.cars;have h4:=h.2;simp only [aF.mayB,Bool.and_eq_true,decide_eq_true_eq] at h4;have h5:=h4.1.1.1.1.1.2;have h6:((List.range (2*x.pairs.toNat+1)).filter fun j:Nat=>decide (1≤j)&& !cI s.must (j:Int)).length≤2*x.pairs.toNat+1:=by refine Nat.le_trans (List.length_filter_le _ _) ?_;rw [List.length_range];exact Nat.le_refl _
  unfold aA.base;omega
 ·omega
def aA.look (x:aA) (st:aC×Bool×Int) (l:List aC):aC×Bool×Int:=
 if (x.bests l).2=true∧(x.bests l).1.cost<st.2.2 then ((x.bests l).1,true,(x.bests l).1.cost) else st
def aA.exGo (x:aA) (most:Int):Nat→aC×Bool×Int→List aC→Int→aC×Bool×Bool×Int
 |0,st,_,n=>(st.1,st.2.1,true,n)
 |d+1,st,l,n=>if l.length=0 then (st.1,st.2.1,true,n) else if most<l.length then (st.1,st.2.1,false,n) else
  x.exGo most d (x.look st l) (gG (x.next l st.2.2)) (IntKind.i64.wrap (n+l.length))
def aA.exact (x:aA) (n:aC) (up most:Int):aC×Bool×Bool×Int:=x.exGo most (x.meas n.s+1) (aC.zero,false,up) [n] 0
def aB7 (r:aC×Bool×Bool×Int):AV:=.tup [r.1.a,.b r.2.1,.b r.2.2.1,.i r.2.2.2]
structure iC (x:aA) (l:List aC) (d K:Nat):Prop where
 ok:∀n∈l,n.s.ok
 deep:∀n∈l,x.meas n.s<d
 path:∀n∈l,n.path.length+d≤K
theorem iC.next {x:aA} {l:List aC} {d K:Nat} (h:iC x l (d+1) K) (up:Int):iC x (gG (x.next l up)) d K:=by
 have key:∀m∈gG (x.next l up),∃n∈l,∃j,(x.move n.s j).2.2=true∧m=x.child n j:=by intro m hm;obtain ⟨n,hn,j,hj,e,_⟩:=gZ ((u6 _).sub m hm);exact ⟨n,hn,j,jW hj,e⟩
 refine ⟨?_,?_,?_⟩
 ·intro m hm;obtain ⟨n,hn,j,hj,rfl⟩:=key m hm;exact nM x j (h.ok n hn)
 ·intro m hm;obtain ⟨n,hn,j,hj,rfl⟩:=key m hm;have:=sT hj;have:=h.deep n hn;show x.meas (x.move n.s j).1<d;omega
 ·intro m hm;obtain ⟨n,hn,j,hj,rfl⟩:=key m hm;have:=h.path n hn;show (n.path++[j]).length+d≤K;rw [List.length_append];simp only [List.length_cons,List.length_nil];omega
theorem iC.empty {x:aA} {l:List aC} {K:Nat} (h:iC x l 0 K):l=[]:=by
 cases l with
 |nil=>rfl
 |cons n l=>exact absurd (h.deep n List.mem_cons_self) (by omega)
theorem iC.root (x:aA) (n:aC) (h:n.s.ok):iC x [n] (x.meas n.s+1) (n.path.length+x.meas n.s+1):=by
 refine ⟨?_,?_,?_⟩<;>(intro m hm;rw [List.mem_singleton.1 hm])
 ·exact h
 ·omega
 ·omega
def aA.few (x:aA) (W:Nat) (l:List aC) (up:Int):List aC:=(x.sortN (x.next l up)).take W
def aA.naGo (x:aA) (W:Nat):Nat→aC×Bool×Int→List aC→Int→aC×Bool×Int
 |0,st,_,n=>(st.1,st.2.1,n)
 |d+1,st,l,n=>if l.length=0 then (st.1,st.2.1,n) else x.naGo W d (x.look st l) (x.few W l st.2.2) (IntKind.i64.wrap (n+l.length))
def iA (w:Int):Nat:=if w<1 then 1 else w.toNat
def aA.narrow (x:aA) (n:aC) (width up:Int):aC×Bool×Int:=x.naGo (iA width) (x.meas n.s+1) (aC.zero,false,up) [n] 0
def aDB (r:aC×Bool×Int):AV:=.tup [r.1.a,.b r.2.1,.i r.2.2]
theorem aCB {x:aA} {W:Nat} {l:List aC} {up:Int} {n:aC} (h:n∈x.few W l up):n∈x.next l up:=aA.sortN_mem.1 (List.mem_of_mem_take h)
theorem aCA (x:aA) (W:Nat) (l:List aC) (up:Int):(x.few W l up).length≤W:=by rw [aA.few,List.length_take];omega
theorem iC.few {x:aA} {l:List aC} {d K:Nat} (h:iC x l (d+1) K) (W:Nat) (up:Int):iC x (x.few W l up) d K:=by
 have key:∀m∈x.few W l up,∃n∈l,∃j,(x.move n.s j).2.2=true∧m=x.child n j:=by intro m hm;obtain ⟨n,hn,j,hj,e,_⟩:=gZ (aCB hm);exact ⟨n,hn,j,jW hj,e⟩
 refine ⟨?_,?_,?_⟩
 ·intro m hm;obtain ⟨n,hn,j,hj,rfl⟩:=key m hm;exact nM x j (h.ok n hn)
 ·intro m hm;obtain ⟨n,hn,j,hj,rfl⟩:=key m hm;have:=sT hj;have:=h.deep n hn;show x.meas (x.move n.s j).1<d;omega
 ·intro m hm;obtain ⟨n,hn,j,hj,rfl⟩:=key m hm;have:=h.path n hn;show (n.path++[j]).length+d≤K;rw [List.length_append];simp only [List.length_cons,List.length_nil];omega
theorem aYE (x:aA) (n:aC) (width up:Int) (hl:x.stops.length<2^31) (hw:width≤3000) (ho:n.s.ok) (hp:n.path.length<2^29):Pure P 89 [x.a,n.a,.i width,.i up] (aDB (x.narrow n width up)):=by
 generalize hR:x.narrow n width up=R;refine aW Tryz.func89 rfl rfl (by simp [Tryz.f89]) (by simp [aE,aE.bndL,aA.a,aC.a,aC.cs]) (by simp [aE,aE.bndL,aDB,aC.a,aC.cs]) fun B hB hnx=>?_
 simp only [Tryz.f89] at hB ⊢;have hlev:=iC.root x n ho;have hmeas:=lQ x n.s;rw [aA.narrow] at hR;generalize hd:x.meas n.s+1=d0 at *;generalize hK:n.path.length+x.meas n.s+1=K at *;have hW1:max width 1=(iA width:Nat):=by unfold iA;split<;>omega
 have hW2:iA width≤3000:=by unfold iA;split<;>omega
 generalize iA width=W at *;refine aD ?_;simp [go_sem,aA.a,aC.a,aC.cs];refine jB ((aH.looseB (b:=2) (cs:=[.i 0,.i 0,.i 0,.i 0,.i 0,.u 0,.u 0,.u 0,.i 0,.fsl []]) (by simp [aB])).trans ((aH.looseB (b:=3) (cs:=[.i 0,.i 0,.i 0,.i 0,.i 0,.u 0,.u 0,.u 0,.i 0,.fsl []]) (by simp [aB])).trans aH.loose)) ?_
 refine bA (α:=Nat×(aC×Bool×Int)×List aC×Int×(Nat→aG)×Nat) (fun (d,st,l,n,σ,nx)=>iC x l d K∧x.naGo W d st l n=R∧l.length≤3000∧σ 0= .box x.cs∧σ 2= .box aC.zero.cs∧σ 3= .box st.1.cs∧3<nx)
  (fun (d,st,l,n,σ,nx)=>⟨sl [(2,.i width),(3,.i st.2.2),(4,.ptr 0 0),(8,.ptr 2 0),(11,.ptr 3 0),(12,.b st.2.1),(13,.i n),(14,.t (.sl (aM l)))],σ,nx⟩) (fun a=>a.1) (d0,(aC.zero,false,up),[n],0,_,4) ?_ (aH.slots (by simp [go_sem,cQ,aM,aC.t]) rfl rfl) ?_
 ·exact ⟨hlev,hR,by simp,by simp [aB,aA.cs],by simp [aB,aC.zero,aF.zero,aC.cs,aJ,cQ],by simp [aB,aC.zero,aF.zero,aC.cs,aJ,cQ],by omega⟩
 rintro ⟨d,st,l,n,σ,nx⟩ ⟨g1,g2,g0,g3,g4,g5,g6⟩;have hil:(aM l).length=l.length:=List.length_map _
 have hgo:x.naGo W d st l n=match d with
  |0=>(st.1,st.2.1,n)
  |d+1=>if l.length=0 then (st.1,st.2.1,n) else x.naGo W d (x.look st l) (x.few W l st.2.2) (IntKind.i64.wrap (n+l.length)):=by cases d<;>rfl
 by_cases c1:l.length=0
 ·have hr:R=(st.1,st.2.1,n):=by
   rw [←g2,hgo];cases d with
   |zero=>rfl
   |succ d=>simp only;rw [if_pos c1]
  subst hr;refine aD ?_;simp [go_sem,hil,c1,g4,g5,aC.cs];rfl
 cases d with
 |zero=>exact absurd (by rw [g1.empty];rfl) c1
 |succ d=>
  simp only at hgo;rw [if_neg c1] at hgo;have c4:0<l.length:=by omega
  rw [hgo] at g2;have hx:=xZ x l st.2.2 hl (by omega) (fun m h=>⟨g1.ok m h,by have:=g1.path m h;omega⟩) (fun m h=>by have:=g1.path m h;omega);have q1:=aDG x l st.2.2;have q2:∀m∈x.next l st.2.2,m.Fine:=by intro m hm;obtain ⟨k,h,j,_,rfl,_⟩:=gZ hm;refine ⟨nM x j (g1.ok k h),?_⟩;have:=g1.path k h;show (k.path++[j]).length<2^31;rw [List.length_append];simp only [List.length_cons,List.length_nil];omega
  have hf:=aOK x (x.next l st.2.2) hl (by omega) q2;have hlv:=g1.few W st.2.2;have hfl:=aCA x W l st.2.2;rw [aA.few] at hlv hfl g2;have hsl:=x.sortN_len (x.next l st.2.2);have hlk:x.look st l=if (x.bests l).2=true∧(x.bests l).1.cost<st.2.2 then ((x.bests l).1,true,(x.bests l).1.cost) else st:=rfl
  generalize x.look st l=st' at *;generalize x.next l st.2.2=M at *;generalize x.sortN M=S at *;generalize x.bests l=Rb at *;obtain ⟨b,is⟩:=Rb;simp only at hlk;have hm:min (S.length:Int) (max width 1)=(min S.length W:Nat):=by rw [hW1];omega
  have htk:S.take W=S.take (min S.length W):=by
   by_cases h:W≤S.length
   ·rw [Nat.min_eq_right h]
   ·rw [Nat.min_eq_left (by omega),List.take_length,List.take_of_length_le (by omega)]
  rw [htk] at hlv hfl g2;have hkl:min S.length W≤S.length:=by omega
  generalize min S.length W=k at *;have hSl:(aM S).length=S.length:=List.length_map _;have hS1:=vG S;have hSt:(aM S).take k=aM (S.take k):=by rw [aM,aM,List.map_take]
  refine aD ?_;simp [go_sem,hil,c4,g3,aA.cs];refine aL rfl rfl rfl (args:=[x.a,.t (.sl (aM l)),.i st.2.2]) (f:=138) (by simp [go_sem,aA.a]) (by simp [go_sem,hB]) ((hx).spec _ _) ?_;have m0:¬0=nx:=by omega
  have m2:¬2=nx:=by omega
  have m3:¬3=nx:=by omega
  have m4:¬nx=3:=by omega
  cases is with
  |false=>rw [if_neg (by simp)] at hlk;subst hlk;refine aD ?_;simp [go_sem,fW,aC.a,aC.cs,g3,m0,aA.cs];refine aL rfl rfl rfl (args:=[x.a,.t (.sl (aM M))]) (f:=139) (by simp [go_sem,aA.a]) (by simp [go_sem,hB]) ((hf).spec _ _) ?_;refine aD ?_;simp [go_sem,hSl,hm,if_pos hS1,hSt,hkl];refine Next.mk (d,st',S.take k,IntKind.i64.wrap (n+l.length),_,nx+1) ?_ (aH.loose.trans (aH.slots (by simp [go_sem,cQ]) rfl rfl)) (by simp only;omega);exact ⟨hlv,g2,by simp only;omega,by simp [aB,g3,m0,aA.cs],by simp [aB,g4,m2,aC.cs],by simp [aB,g5,m3,aC.cs],by simp only;omega⟩
  |true=>
   by_cases c5:b.cost<st.2.2
   ·rw [if_pos ⟨rfl,c5⟩] at hlk;subst hlk;refine aD ?_;simp [go_sem,fW,aC.a,aC.cs,c5];refine cT [3] [1,2] rfl (by rw [hB];kernel_rfl) (by kernel_rfl) fun ht hf'=>?_
    refine aD ?_;simp [go_sem,ht,hf',c5,m3,m4,m0,g3,g5,aA.cs,aC.cs];refine aL rfl rfl rfl (args:=[x.a,.t (.sl (aM M))]) (f:=139) (by simp [go_sem,aA.a]) (by simp [go_sem,hB]) ((hf).spec _ _) ?_;refine aD ?_;simp [go_sem,hSl,hm,if_pos hS1,hSt,hkl];refine Next.mk (d,(b,true,b.cost),S.take k,IntKind.i64.wrap (n+l.length),_,nx+1) ?_ (aH.loose.trans (aH.slots (by simp [go_sem,cQ]) rfl rfl)) (by simp only;omega);exact ⟨hlv,g2,by simp only;omega,by simp [aB,g3,m0,aA.cs],by simp [aB,g4,m2,aC.cs],by simp [aB,g5,m3,aC.cs],by simp only;omega⟩
   ·rw [if_neg (fun h=>c5 h.2)] at hlk;subst hlk;refine aD ?_;simp [go_sem,fW,aC.a,aC.cs,c5,g3,m0,aA.cs];refine aL rfl rfl rfl (args:=[x.a,.t (.sl (aM M))]) (f:=139) (by simp [go_sem,aA.a]) (by simp [go_sem,hB]) ((hf).spec _ _) ?_;refine aD ?_;simp [go_sem,hSl,hm,if_pos hS1,hSt,hkl];refine Next.mk (d,st',S.take k,IntKind.i64.wrap (n+l.length),_,nx+1) ?_ (aH.loose.trans (aH.slots (by simp [go_sem,cQ]) rfl rfl)) (by simp only;omega);exact ⟨hlv,g2,by simp only;omega,by simp [aB,g3,m0,aA.cs],by simp [aB,g4,m2,aC.cs],by simp [aB,g5,m3,aC.cs],by simp only;omega⟩
def rQ (st:aC×Bool×Int):Prop:=st.2.1=true→st.1.cost=st.2.2
theorem vE {x:aA} {st:aC×Bool×Int} {l:List aC} (h:rQ st):rQ (x.look st l)∧(x.look st l).2.2≤st.2.2∧(st.2.1=true→(x.look st l).2.1=true):=by
 unfold aA.look;split
 ·rename_i hc;exact ⟨fun _=>rfl,by simp only;omega,fun _=>rfl⟩
 ·exact ⟨h,Int.le_refl _,fun h=>h⟩
def aA.way (x:aA):List Int→aF→Int→Prop
 |[],s,c=>(x.endS s).2=true∧c=(x.endS s).1
 |j :: l,s,c=>(x.move s j).2.2=true∧∃d,x.way l (x.move s j).1 d∧c=(x.move s j).2.1+d
theorem wK {x:aA}:∀{l:List Int} {s:aF} {c:Int},x.way l s c→0≤c∧c≤14143*(l.length+1)
 |[],s,c,h=>by have:=xY h.1;have:=h.2;simp only [List.length_nil];omega
 |j :: l,s,c,h=>by obtain ⟨h1,d,h2,h3⟩:=h;have:=wK h2;have:=oH h1;rw [List.length_cons];omega
theorem wL {x:aA}:∀{l:List Int} {s:aF} {c:Int},x.way l s c→l.length≤x.meas s
 |[],s,c,h=>Nat.zero_le _
 |j :: l,s,c,h=>by obtain ⟨h1,d,h2,h3⟩:=h;have:=wL h2;have:=sT h1;rw [List.length_cons];omega
theorem aFK {x:aA}:∀{l:List Int} {s:aF} {c:Int},s.seenAt→x.way l s c→jI x.near s.can≤c
 |[],s,c,_,h=>by rw [h.2];exact aXQ h.1
 |j :: l,s,c,hs,h=>by obtain ⟨h1,d,h2,h3⟩:=h;have:=aFK (zS h1) h2;have:=aXS hs h1;omega
theorem aPH {x:aA}:∀{l:List Int} {s t:aF} {c0 c1:Int} {m:List Int} {d:Int},0≤c0→c0+14143*l.length<9223372036854775808→x.goes l s c0=some (t,c1)→x.way m t d→x.way (l++m) s (c1-c0+d)
 |[],s,t,c0,c1,m,d,_,_,h,he=>by
  rw [aA.goes] at h;cases h;have:c0-c0+d=d:=by omega
  rw [this];exact he
 |j :: l,s,t,c0,c1,m,d,h0,hl,h,he=>by
  rw [aA.goes] at h;split at h
  ·rename_i hm;have hc:=oH hm;rw [List.length_cons] at hl;rw [aO _ (by omega)] at h;exact ⟨hm,_,aPH (by omega) (by omega) h he,by omega⟩
  ·cases h
structure aF.Pos (s:aF):Prop where
 car:1≤s.car
 time:0≤s.time
 load:0≤s.load
theorem aFP {a b k:Nat} (hk:k≤63) (h:dE a b=true):dE (cL a k) (cL b k)=true:=by rw [dE,List.all_eq_true] at *;intro i hi;have:=h i hi;rw [i8 hk,i8 hk];revert this;cases a.testBit i<;>cases b.testBit i<;>cases decide (k=i)<;>simp
theorem bHN {a b k:Nat} (hk:k≤63) (h:dE a b=true):dE (i9 a k) (i9 b k)=true:=by rw [dE,List.all_eq_true] at *;intro i hi;have:=h i hi;have hi':=List.mem_range.1 hi;rw [aAH hk hi',aAH hk hi'];revert this;cases a.testBit i<;>cases b.testBit i<;>cases decide (k=i)<;>simp
theorem aPQ {a:Nat} (ha:a<2^64) (h:dE a 0=true):a=0:=by
 refine Nat.eq_of_testBit_eq fun i=>?_
 by_cases hi:i<64
 ·rw [dE,List.all_eq_true] at h;have:=h i (List.mem_range.2 hi);revert this;cases a.testBit i<;>simp
 ·rw [Nat.zero_testBit];exact Nat.testBit_lt_two_pow (Nat.lt_of_lt_of_le ha (Nat.pow_le_pow_right (by omega) (by omega)))
theorem xU {a b:aF} (e1:a.spot=b.spot) (e2:dE a.must b.must=true) (e3:dE a.on b.on=true) (e4:dE b.can a.can=true) (e5:a.car≤b.car) (e6:a.time≤b.time) (e7:a.load≤b.load) (e8:a.first≤b.first):dB a b=true:=by simp only [dB,Bool.and_eq_true,decide_eq_true_eq];exact ⟨⟨⟨⟨⟨⟨⟨e1,e2⟩,e3⟩,e4⟩,e5⟩,e6⟩,e7⟩,e8⟩
theorem aBV {x:aA} {a b:aF} (h:dB a b=true) (hp:a.Pos) (hb:b.mayB x=true):a.mayB x=true:=by simp only [dB,Bool.and_eq_true,decide_eq_true_eq] at h;simp only [aF.mayB,Bool.and_eq_true,decide_eq_true_eq] at hb ⊢;have:=hp.car;have:=hp.time;have:=hp.load;omega
theorem aTQ {x:aA} {a b:aF} (hcov:dB a b=true) (hp:a.Pos) (ho:a.ok) (h:(x.move b 0).2.2=true):
  x.move a 0=(x.homeS a,bL (x.stop b.spot) (x.stop 0),true)∧dB (x.homeS a) (x.homeS b)=true∧(x.homeS a).Pos:=by
 have hc:=hcov;simp only [dB,Bool.and_eq_true,decide_eq_true_eq] at hc;obtain ⟨⟨⟨⟨⟨⟨⟨e1,e2⟩,e3⟩,e4⟩,e5⟩,e6⟩,e7⟩,e8⟩:=hc;obtain ⟨h1,h2,h3,h4⟩:=lD h;obtain ⟨p,hx⟩:=x.fit h1;have hpp:=hx.pairs;have ha:=aBV hcov hp h2
 have hs:x.stayB a=false:=by
  simp only [aA.stayB,Bool.or_eq_false_iff,decide_eq_false_iff_not] at h3 ⊢;obtain ⟨⟨⟨⟨a1,a2⟩,a3⟩,a4⟩,a5⟩:=h3
  have hon:a.on=0:=by
   have:b.on=0:=by omega
   rw [this] at e3;exact aPQ ho.on e3
  refine ⟨⟨⟨⟨by rw [e1];exact a1,by omega⟩,by omega⟩,?_⟩,by rw [e1];omega⟩;cases hq:x.allB a.must with
  |false=>rfl
  |true=>have:=wO hq e2;rw [aA.allB] at a4;rw [a4] at this;cases this
 have hto:x.to a 0=(x.homeS a,true):=by rw [aA.to,if_pos rfl,aA.home,if_neg (by rw [hs];simp)]
 have hmv:=yZ (j:=0) h1 ha (by omega) (by rw [hto]);rw [hto,e1] at hmv;have h5:=(hx.at (j:=0) (by omega) (by omega)).ready;have h6:=hp.car;refine ⟨hmv,xU (a:=x.homeS a) (b:=x.homeS b) rfl e2 e3 e4 ?_ ?_ ?_ e8,⟨?_,?_,?_⟩⟩<;>simp only [aA.homeS]<;>omega
theorem aTR {x:aA} {a b:aF} {j:Int} (hj:j≠0) (hcov:dB a b=true) (hp:a.Pos) (h:(x.move b j).2.2=true):
  x.move a j=(x.rvisit a j (x.begins a j),bL (x.stop b.spot) (x.stop j),true)∧dB (x.rvisit a j (x.begins a j)) (x.rvisit b j (x.begins b j))=true∧(x.rvisit a j (x.begins a j)).Pos:=by
 have hc:=hcov;simp only [dB,Bool.and_eq_true,decide_eq_true_eq] at hc;obtain ⟨⟨⟨⟨⟨⟨⟨e1,e2⟩,e3⟩,e4⟩,e5⟩,e6⟩,e7⟩,e8⟩:=hc;obtain ⟨h1,h2,h3,h4,h5,h6,h7,h8⟩:=iY h hj;obtain ⟨p,hx⟩:=x.fit h1;have hpp:=hx.pairs;have hfew:=hx.few;have ha:=aBV hcov hp h2;have hbe:x.begins a j≤x.begins b j:=by unfold aA.begins;rw [e1];omega
 have k1:x.lateB a j=false:=by
  simp only [aA.lateB,Bool.or_eq_false_iff,decide_eq_false_iff_not] at h5 ⊢;refine ⟨?_,by omega⟩;cases hq:cI a.must j with
  |false=>rfl
  |true=>have:=aPN e2 j hq;rw [h5.1] at this;cases this
 have k2:j≤x.pairs→x.fullB a j=false:=fun hh=>by
  have:=h6 hh;simp only [aA.fullB,Bool.or_eq_false_iff,Bool.and_eq_false_iff,decide_eq_false_iff_not] at this ⊢;refine ⟨by omega,?_⟩;rcases this.2 with h9 | h9
  ·exact .inl (by rw [e1];exact h9)
  ·exact .inr (by omega)
 have k3:x.pairs<j→x.emptyB a j=false:=fun hh=>by have:=h7 hh;simp only [aA.emptyB,Bool.or_eq_false_iff,Bool.not_eq_false',decide_eq_false_iff_not] at this ⊢;exact ⟨by rw [e1];exact this.1,aPN e4 _ this.2⟩
 have hto:=aFD (x:=x) (s:=a) hj k1 k2 k3;have hmv:=yZ (j:=j) h1 ha (by omega) (by rw [hto]);rw [hto,e1] at hmv;have h9:=(hx.at (j:=j) (by omega) (by omega)).service;have h10:=(nI (x.stop a.spot) (x.stop j)).1;have h11:=hp.time;have h12:=hp.car;have h13:0≤x.begins a j:=by unfold aA.begins;omega
 obtain ⟨k,hk⟩:∃k:Nat,j=k:=⟨j.toNat,by omega⟩;refine ⟨hmv,?_,⟨?_,?_,?_⟩⟩
 ·generalize x.begins a j=ta at *;generalize x.begins b j=tb at *;generalize x.stop j=sj at *;refine xU ?_ ?_ ?_ ?_ ?_ ?_ ?_ ?_
  ·simp only [aA.rvisit]
  ·simp only [aA.rvisit];rw [hk];exact aFP (by omega) e2
  ·simp only [aA.rvisit];rw [hk];split
   ·exact aFP (by omega) e3
   ·obtain ⟨q,hq⟩:∃q:Nat,(k:Int)-x.pairs=q:=⟨((k:Int)-x.pairs).toNat,by omega⟩;rw [hq];exact bHN (by omega) e3
  ·simp only [aA.rvisit];rw [hk];exact aFP (by omega) e4
  ·simp only [aA.rvisit];exact e5
  ·simp only [aA.rvisit];omega
  ·simp only [aA.rvisit];omega
  ·simp only [aA.rvisit];rw [e1];split
   ·exact Int.le_refl _
   ·exact e8
 ·simp only [aA.rvisit];exact h12
 ·simp only [aA.rvisit];omega
 ·simp only [aA.rvisit];omega
theorem aHM {x:aA} {a b:aF} {j:Int} (hc:dB a b=true) (hp:a.Pos) (ho:a.ok) (h:(x.move b j).2.2=true):
  (x.move a j).2.2=true∧(x.move a j).2.1=(x.move b j).2.1∧dB (x.move a j).1 (x.move b j).1=true∧(x.move a j).1.Pos:=by
 by_cases hj:j=0
 ·subst hj;obtain ⟨g1,g2,g3⟩:=aTQ hc hp ho h;rw [g1,(lD h).2.2.2];exact ⟨rfl,rfl,g2,g3⟩
 ·obtain ⟨g1,g2,g3⟩:=aTR hj hc hp h;rw [g1,(iY h hj).2.2.2.2.2.2.2];exact ⟨rfl,rfl,g2,g3⟩
theorem aTP {x:aA} {a b:aF} (h0:x.pairs≠0) (hc:dB a b=true) (hp:a.Pos) (ho:a.ok) (h:(x.endS b).2=true):(x.endS a).2=true∧(x.endS a).1=(x.endS b).1:=by
 have hcov:=hc;simp only [dB,Bool.and_eq_true,decide_eq_true_eq] at hc;obtain ⟨⟨⟨⟨⟨⟨⟨e1,e2⟩,e3⟩,e4⟩,e5⟩,e6⟩,e7⟩,e8⟩:=hc;obtain ⟨h1,h2 | ⟨h2,h3,h4,h5,h6,h7⟩⟩:=sH h
 ·exact absurd h2.1 h0
 ·have hon:a.on=0:=by rw [h4] at e3;exact aPQ ho.on e3
  have hend:x.endS a=(bL (x.stop a.spot) (x.stop 0),true):=by rw [aA.endS,if_neg (by simp [h1]),if_neg (fun h=>h0 h.1),if_pos];refine ⟨aBV hcov hp h2,by rw [e1];exact h3,hon,?_,by rw [e1];omega⟩;exact wO h5 e4
  rw [hend,h7,e1];exact ⟨rfl,rfl⟩
theorem aBW {x:aA} (h0:x.pairs≠0):∀{l:List Int} {a b:aF} {c:Int},dB a b=true→a.Pos→a.ok→x.way l b c→x.way l a c
 |[],a,b,c,hc,hp,ho,h=>by obtain ⟨h1,h2⟩:=aTP h0 hc hp ho h.1;exact ⟨h1,by rw [h2];exact h.2⟩
 |j :: l,a,b,c,hc,hp,ho,h=>by obtain ⟨h1,d,h2,h3⟩:=h;obtain ⟨g1,g2,g3,g4⟩:=aHM hc hp ho h1;exact ⟨g1,d,aBW h0 g3 g4 (nM x j ho) h2,by omega⟩
theorem aMT {x:aA} {s:aF} {j:Int} (hp:s.Pos) (ho:s.ok) (h:(x.move s j).2.2=true):(x.move s j).1.Pos:=(aHM (qX s) hp ho h).2.2.2
theorem bAF {x:aA} (h:x.may=true):x.rootS.Pos:=by obtain ⟨p,hx⟩:=x.fit h;have:=(hx.at (j:=0) (by omega) (by omega)).ready;rw [aA.rootS,if_pos h];exact ⟨Int.le_refl _,this.1,Int.le_refl _⟩
theorem aDA {x:aA} {s:aF} {j:Int} (h:(x.move s j).2.2=true):x.pairs≠0:=by
 by_cases hj:j=0
 ·subst hj;obtain ⟨h1,h2,h3,h4⟩:=lD h;simp only [aA.stayB,Bool.or_eq_false_iff,decide_eq_false_iff_not] at h3;simp only [aF.mayB,Bool.and_eq_true,decide_eq_true_eq] at h2;omega
 ·have:=iY h hj;omega
structure dY (x:aA) (l:List aC) (d:Nat):Prop where
 ok:∀n∈l,n.s.ok
 deep:∀n∈l,x.meas n.s<d
 pos:∀n∈l,n.s.Pos
 seen:∀n∈l,n.s.seenAt
 cost:∀n∈l,0≤n.cost∧n.cost+14143*(d:Int)≤1152921504606846976
theorem qV {x:aA} {l:List aC} {d:Nat} (h:dY x l (d+1)) {n:aC} (hn:n∈l) {j:Int} (hj:(x.move n.s j).2.2=true):(x.child n j).cost=n.cost+(x.move n.s j).2.1:=by have h1:=h.cost n hn;have h2:=oH hj;show dL [n.cost,(x.move n.s j).2.1]=_;rw [rS h1.1 h2.1 (by omega)]
theorem dY.sub {x:aA} {l m:List aC} {d:Nat} (h:dY x l d) (hs:∀n∈m,n∈l):dY x m d:=
 ⟨fun n hn=>h.ok n (hs n hn),fun n hn=>h.deep n (hs n hn),fun n hn=>h.pos n (hs n hn),fun n hn=>h.seen n (hs n hn),fun n hn=>h.cost n (hs n hn)⟩
theorem dY.next {x:aA} {l:List aC} {d:Nat} (h:dY x l (d+1)) (up:Int):dY x (x.next l up) d:=by
 have key:∀m∈x.next l up,∃n∈l,∃j,(x.move n.s j).2.2=true∧m=x.child n j:=by intro m hm;obtain ⟨n,hn,j,hj,e,_⟩:=gZ hm;exact ⟨n,hn,j,jW hj,e⟩
 refine ⟨?_,?_,?_,?_,?_⟩<;>(intro m hm;obtain ⟨n,hn,j,hj,rfl⟩:=key m hm)
 ·exact nM x j (h.ok n hn)
 ·have:=sT hj;have:=h.deep n hn;show x.meas (x.move n.s j).1<d;omega
 ·exact aMT (h.pos n hn) (h.ok n hn) hj
 ·exact zS hj
 ·rw [qV h hn hj];have:=h.cost n hn;have:=oH hj;omega
theorem dY.front {x:aA} {l:List aC} {d:Nat} (h:dY x l (d+1)) (up:Int):dY x (gG (x.next l up)) d:=(h.next up).sub fun n hn=>(u6 _).sub n hn
theorem dY.empty {x:aA} {l:List aC} (h:dY x l 0):l=[]:=by
 cases l with
 |nil=>rfl
 |cons n l=>exact absurd (h.deep n List.mem_cons_self) (by omega)
theorem dY.root {x:aA} {n:aC} (h1:n.s.ok) (h2:n.s.Pos) (h3:n.s.seenAt) (h4:0≤n.cost∧n.cost≤1152921504606000000):dY x [n] (x.meas n.s+1):=by
 have:=lQ x n.s;refine ⟨?_,?_,?_,?_,?_⟩<;>(intro m hm;rw [List.mem_singleton.1 hm])
 ·exact h1
 ·omega
 ·exact h2
 ·exact h3
 ·omega
theorem aGY (x:aA):∀(l:List aC) (b:aC×Bool),(l.foldl x.best1 b)=b∨((l.foldl x.best1 b).2=true∧∃n∈l,(x.endS n.s).2=true∧(l.foldl x.best1 b).1.cost=dL [n.cost,(x.endS n.s).1]∧(l.foldl x.best1 b).1.path=n.path)
 |[],b=>.inl rfl
 |n :: l,b=>by
  rw [List.foldl_cons];rcases aGY x l (x.best1 b n) with h | ⟨h1,m,hm,h2⟩
  ·rw [h];unfold aA.best1;split
   ·rename_i hc;exact .inr ⟨rfl,n,List.mem_cons_self,hc.1,rfl,rfl⟩
   ·exact .inl rfl
  ·exact .inr ⟨h1,m,List.mem_cons_of_mem _ hm,h2⟩
theorem aA1 {x:aA} {l:List aC} (h:(x.bests l).2=true):∃n∈l,(x.endS n.s).2=true∧(x.bests l).1.cost=dL [n.cost,(x.endS n.s).1]∧(x.bests l).1.path=n.path:=by
 rcases aGY x l (aC.zero,false) with h1 | ⟨_,h2⟩
 ·rw [aA.bests,h1] at h;cases h
 ·exact h2
theorem uY {x:aA} {l:List aC} {d:Nat} (h:dY x l (d+1)) {n:aC} (hn:n∈l) (he:(x.endS n.s).2=true):dL [n.cost,(x.endS n.s).1]=n.cost+(x.endS n.s).1:=by have h1:=h.cost n hn;have h2:=xY he;rw [rS h1.1 h2.1 (by omega)]
theorem aDH {x:aA} (hst:x.stops.length<2^31) {l:List aC} {d:Nat} (h:dY x l (d+1)) {n:aC} (hn:n∈l) {j:Int} {w:List Int} {c:Int} (hj:(x.move n.s j).2.2=true) (hw:x.way w (x.move n.s j).1 c) {up:Int} (hlt:n.cost+((x.move n.s j).2.1+c)<up):
  ∃m∈x.next l up,m.s=(x.move n.s j).1∧m.cost≤n.cost+(x.move n.s j).2.1:=by
 have hc:=h.cost n hn;have hmc:=oH hj;have hcc:=qV h hn hj;have hwl:=wL hw;have hwi:=wK hw;have hmm:=sT hj;have hdp:=h.deep n hn;have hlow:=aFK (zS hj) hw;have hof:x.of (x.child n j)<up:=by have:=aLK (x:=x) hst (x.child n j) (n.cost+((x.move n.s j).2.1+c)) (by omega) (by rw [hcc];show _+jI x.near (x.move n.s j).1.can≤_;omega) (by omega);omega
 have hmem:x.child n j∈l.flatMap (x.kids up):=by refine List.mem_flatMap.2 ⟨n,hn,?_⟩;rw [aA.kids,List.mem_filter];exact ⟨List.mem_map.2 ⟨j,aLD hj,rfl⟩,by simpa using hof⟩
 obtain ⟨m,h1,h2,h3⟩:=aDT hmem;exact ⟨m,h1,h2,by omega⟩
theorem aVB {x:aA} {l:List aC} {d:Nat} (h:dY x l d) (hp:x.pairs≠0) {n:aC} (hn:n∈l) {w:List Int} {c:Int} (hw:x.way w n.s c):∃m∈gG l,x.way w m.s c∧m.cost≤n.cost:=by obtain ⟨f,hf,hfn⟩:=(u6 l).up n hn;have hfl:=(u6 l).sub f hf;simp only [aC.than,Bool.and_eq_true,decide_eq_true_eq] at hfn;exact ⟨f,hf,aBW hp hfn.2 (h.pos f hfl) (h.ok f hfl) hw,hfn.1.1⟩
theorem aB6 (x:aA) (most:Int):∀(d:Nat) (st:aC×Bool×Int) (l:List aC) (n:Int),rQ st→st.2.1=true→(x.exGo most d st l n).2.1=true∧(x.exGo most d st l n).1.cost≤st.2.2
 |0,st,l,n,h,hs=>⟨hs,by rw [aA.exGo];have:=h hs;simp only;omega⟩
 |d+1,st,l,n,h,hs=>by
  rw [aA.exGo];split
  ·exact ⟨hs,by have:=h hs;simp only;omega⟩
  ·split
   ·exact ⟨hs,by have:=h hs;simp only;omega⟩
   ·obtain ⟨k1,k2,k3⟩:=vE (x:=x) (l:=l) h;obtain ⟨j1,j2⟩:=aB6 x most d (x.look st l) (gG (x.next l st.2.2)) (IntKind.i64.wrap (n+l.length)) k1 (k3 hs);exact ⟨j1,by omega⟩
theorem aIF {x:aA} (hst:x.stops.length<2^31) (most:Int):∀(d:Nat) (st:aC×Bool×Int) (l:List aC) (n:Int),dY x l d→rQ st→(x.exGo most d st l n).2.2.1=true→
  ∀m∈l,∀(w:List Int) (c:Int),x.way w m.s c→m.cost+c<st.2.2→(x.exGo most d st l n).2.1=true∧(x.exGo most d st l n).1.cost≤m.cost+c
 |0,st,l,n,hl,_,_,m,hm,w,c,_,_=>by rw [hl.empty] at hm;cases hm
 |d+1,st,l,n,hl,h,hall,m,hm,w,c,hw,hlt=>by
  have c1:¬l.length=0:=by have:=List.length_pos_of_mem hm;omega
  rw [aA.exGo,if_neg c1] at hall ⊢;by_cases c2:most<l.length
  ·rw [if_pos c2] at hall;cases hall
  rw [if_neg c2] at hall ⊢;obtain ⟨k1,k2,k3⟩:=vE (x:=x) (l:=l) h
  match w,hw with
  |[],hw=>
   obtain ⟨b1,b2⟩:=xM hm hw.1;rw [uY hl hm hw.1,←hw.2] at b2;have hlk:x.look st l=((x.bests l).1,true,(x.bests l).1.cost):=by rw [aA.look,if_pos ⟨b1,by omega⟩]
   obtain ⟨j1,j2⟩:=aB6 x most d (x.look st l) (gG (x.next l st.2.2)) (IntKind.i64.wrap (n+l.length)) k1 (by rw [hlk]);refine ⟨j1,?_⟩;have:(x.look st l).2.2=(x.bests l).1.cost:=by rw [hlk]
   omega
  |j :: w,hw=>
   obtain ⟨g1,e,g2,g3⟩:=hw;obtain ⟨q,hq,q1,q2⟩:=aDH hst hl hm g1 g2 (up:=st.2.2) (by omega);obtain ⟨f,hf,f1,f2⟩:=aVB (hl.next st.2.2) (aDA g1) hq (w:=w) (c:=e) (by rw [q1];exact g2);by_cases c3:f.cost+e<(x.look st l).2.2
   ·obtain ⟨i1,i2⟩:=aIF hst most d (x.look st l) (gG (x.next l st.2.2)) _ (hl.front st.2.2) k1 hall f hf w e f1 c3;exact ⟨i1,by omega⟩
   ·have hs:(x.look st l).2.1=true:=by
     unfold aA.look at c3 ⊢;split
     ·rfl
     ·rename_i hh;rw [if_neg hh] at c3;omega
    obtain ⟨j1,j2⟩:=aB6 x most d (x.look st l) (gG (x.next l st.2.2)) (IntKind.i64.wrap (n+l.length)) k1 hs;exact ⟨j1,by omega⟩
theorem aIE {x:aA} (most:Int):∀(d:Nat) (st:aC×Bool×Int) (l:List aC) (n:Int),dY x l d→rQ st→
  ((x.exGo most d st l n).2.1=st.2.1∧(x.exGo most d st l n).1=st.1)∨
  ((x.exGo most d st l n).2.1=true∧∃m∈l,∃(w:List Int) (c:Int),x.way w m.s c∧(x.exGo most d st l n).1.cost=m.cost+c∧(x.exGo most d st l n).1.path=m.path++w∧m.cost+c<st.2.2)
 |0,st,l,n,_,_=>.inl ⟨rfl,rfl⟩
 |d+1,st,l,n,hl,h=>by
  rw [aA.exGo];split
  ·exact .inl ⟨rfl,rfl⟩
  split
  ·exact .inl ⟨rfl,rfl⟩
  obtain ⟨k1,k2,k3⟩:=vE (x:=x) (l:=l) h;rcases aIE most d (x.look st l) (gG (x.next l st.2.2)) (IntKind.i64.wrap (n+l.length)) (hl.front st.2.2) k1 with ⟨i1,i2⟩ | ⟨i1,m,hm,w,c,i2,i3,i4,i5⟩
  ·by_cases hh:(x.bests l).2=true∧(x.bests l).1.cost<st.2.2
   ·have hlk:x.look st l=((x.bests l).1,true,(x.bests l).1.cost):=by rw [aA.look,if_pos hh]
    rw [i1,i2,hlk];obtain ⟨m,hm,b1,b2,b3⟩:=aA1 hh.1;rw [uY hl hm b1] at b2;exact .inr ⟨rfl,m,hm,[],_,⟨b1,rfl⟩,b2,by rw [List.append_nil];exact b3,by omega⟩
   ·have hlk:x.look st l=st:=by rw [aA.look,if_neg hh]
    rw [i1,i2,hlk];exact .inl ⟨rfl,rfl⟩
  ·obtain ⟨q,hq,j,hj,rfl,_⟩:=gZ ((u6 _).sub m hm);have hj:=jW hj;have hcc:=qV hl hq hj;refine .inr ⟨i1,q,hq,j :: w,(x.move q.s j).2.1+c,⟨hj,c,i2,rfl⟩,?_,?_,?_⟩
   ·rw [i3,hcc];omega
   ·rw [i4];show (q.path++[j])++w=_;rw [List.append_assoc];rfl
   ·rw [hcc] at i5;omega
theorem aII {x:aA} (hst:x.stops.length<2^31) {n:aC} {up most:Int} (h1:n.s.ok) (h2:n.s.Pos) (h3:n.s.seenAt) (h4:0≤n.cost∧n.cost≤1152921504606000000) (hall:(x.exact n up most).2.2.1=true) {w:List Int} {c:Int} (hw:x.way w n.s c) (hlt:n.cost+c<up):
  (x.exact n up most).2.1=true∧(x.exact n up most).1.cost≤n.cost+c:=
 aIF hst most _ _ _ _ (dY.root h1 h2 h3 h4) (fun h=>by cases h) hall n List.mem_cons_self w c hw hlt
theorem aUX {x:aA} {n:aC} {up most:Int} (h1:n.s.ok) (h2:n.s.Pos) (h3:n.s.seenAt) (h4:0≤n.cost∧n.cost≤1152921504606000000) (hs:(x.exact n up most).2.1=true):
  ∃(w:List Int) (c:Int),x.way w n.s c∧(x.exact n up most).1.cost=n.cost+c∧(x.exact n up most).1.path=n.path++w∧n.cost+c<up:=by
 rcases aIE (x:=x) most _ (aC.zero,false,up) _ 0 (dY.root h1 h2 h3 h4) (fun h=>by cases h) with ⟨i1,_⟩ | ⟨_,m,hm,w,c,i2⟩
 ·rw [aA.exact,i1] at hs;cases hs
 ·rw [List.mem_singleton.1 hm] at i2;exact ⟨w,c,i2⟩
def z9 (f:Nat→Nat):Nat→Nat
 |0=>0
 |n+1=>z9 f n+f n
def vI (p M:Nat) (yard:Bool) (j:Nat):Bool:=
 if j=0 then !yard&&(List.range p).all fun k=>!M.testBit k||M.testBit (k+p)
 else if j≤p then !M.testBit (j-1) else !yard&& !M.testBit (j-1)&&M.testBit (j-1-p)
def tI (p:Nat):Nat→Nat→Bool→Nat
 |0,_,_=>1
 |d+1,M,yard=>max 1 (z9 (fun j=>if vI p M yard j=true then tI p d (if j=0 then M else M|||2^(j-1)) (decide (j=0)) else 0) (2*p+1))
theorem aD7 (p:Nat):∀(d M:Nat) (yard:Bool),1≤tI p d M yard
 |0,_,_=>Nat.le_refl _
 |d+1,_,_=>Nat.le_max_left _ _
theorem bAJ:∀p<4,∀d<15,tI p d 0 true≤132:=by decide+kernel
def gJ (s:aF):Nat:=s.must / 2 % 64
theorem sR (s:aF) {k:Nat} (hk:k<6):(gJ s).testBit k=s.must.testBit (k+1):=by rw [gJ,show (64:Nat)=2^6 from rfl,Nat.testBit_mod_two_pow,Nat.testBit_succ];simp [hk]
def aF.yard (s:aF):Bool:=decide (s.spot=0)
def lW (p d:Nat) (s:aF):Nat:=tI p d (gJ s) s.yard
def cR (p d:Nat):List aC→Nat
 |[]=>0
 |n :: l=>lW p d n.s+cR p d l
theorem zF (p d:Nat):∀(l m:List aC),cR p d (l++m)=cR p d l+cR p d m
 |[],m=>by simp [cR]
 |n :: l,m=>by rw [List.cons_append,cR,cR,zF p d l m];omega
theorem aMW (p d:Nat):∀(l:List aC),l.length≤cR p d l
 |[]=>Nat.zero_le _
 |n :: l=>by have:=aMW p d l;have:=aD7 p d (gJ n.s) n.s.yard;rw [List.length_cons,cR,lW];omega
theorem aMV (p d:Nat) (f:aC→Bool):∀(l:List aC),cR p d (l.filter f)≤cR p d l
 |[]=>Nat.le_refl _
 |n :: l=>by have:=aMV p d f l;rw [List.filter_cons];split<;>simp only [cR]<;>omega
theorem aMY (p d:Nat) {n:aC}:∀(l:List aC) (i:Nat) (h:i<l.length),l[i].s=n.s→cR p d (l.set i n)=cR p d l
 |m :: l,0,h,e=>by simp only [List.getElem_cons_zero] at e;simp only [List.set_cons_zero,cR,e]
 |m :: l,i+1,h,e=>by simp only [List.getElem_cons_succ] at e;rw [List.set_cons_succ,cR,cR,aMY p d l i (by simpa using h) e]
theorem bAH (p d:Nat) (out:List aC) (n:aC):cR p d (eZ out n)≤cR p d out+lW p d n.s:=by
 unfold eZ;split
 ·rw [zF];simp only [cR];omega
 ·rename_i i e;obtain ⟨h1,h2⟩:=tN e;split
  ·rw [aMY p d out i h1 h2];omega
  ·omega
theorem aMX (p d:Nat):∀(l out:List aC),cR p d (l.foldl eZ out)≤cR p d out+cR p d l
 |[],out=>Nat.le_refl _
 |n :: l,out=>by have:=aMX p d l (eZ out n);have:=bAH p d out n;rw [List.foldl_cons,cR];omega
theorem aX6 {x:aA} {p:Nat} {s:aF} (hx:x.Fit p) (hp3:p≤3) (hg:kA x p s) {k:Nat} (h:(x.move s k).2.2=true):
  vI p (gJ s) s.yard k=true∧lW p 0 (x.move s k).1=1∧gJ (x.move s k).1=(if k=0 then gJ s else gJ s|||2^(k-1))∧(x.move s k).1.yard=decide (k=0):=by
 have hp:=hx.pairs;by_cases hk:k=0
 ·subst hk;obtain ⟨h1,h2,h3,h4⟩:=lD h;simp only [aA.stayB,Bool.or_eq_false_iff,decide_eq_false_iff_not] at h3;have e0:(((0:Nat):Int))=0:=rfl;rw [e0,h4];refine ⟨?_,rfl,rfl,rfl⟩;rw [vI,if_pos rfl,aF.yard,Bool.and_eq_true,List.all_eq_true];refine ⟨by simp [h3.1.1.1.1],fun i hi=>?_⟩;have hi:=List.mem_range.1 hi;have hon:=hg.on (i+1) (by omega) (by omega);have:s.on=0:=by omega
  rw [this,Nat.zero_testBit] at hon;rw [sR s (by omega),sR s (by omega),show i+p+1=i+1+p by omega];revert hon;cases s.must.testBit (i+1)<;>cases s.must.testBit (i+1+p)<;>simp
 ·obtain ⟨h1,h2,h3,h4,h5,h6,h7,h8⟩:=iY h (by omega);simp only [aA.lateB,Bool.or_eq_false_iff] at h5;have h50:=h5.1;rw [iT (by omega)] at h50;rw [h8];refine ⟨?_,rfl,?_,by simp only [aF.yard,aA.rvisit];rw [Bool.eq_iff_iff];simp⟩
  ·rw [vI,if_neg hk];have e1:(gJ s).testBit (k-1)=s.must.testBit k:=by rw [sR s (by omega),show k-1+1=k by omega]
   split
   ·rw [e1,h50];rfl
   ·have h9:=h7 (by omega);simp only [aA.emptyB,Bool.or_eq_false_iff,Bool.not_eq_false',decide_eq_false_iff_not] at h9;have e2:(k:Int)-x.pairs=((k-p:Nat):Int):=by omega
    have h10:=h9.2;rw [e2,iT (by omega),hg.eq] at h10;have e3:(gJ s).testBit (k-1-p)=s.must.testBit (k-p):=by rw [sR s (by omega),show k-1-p+1=k-p by omega]
    rw [e1,h50,e3,h10,aF.yard];simp [h9.1]
  ·rw [if_neg hk];refine Nat.eq_of_testBit_eq fun i=>?_
   rw [Nat.testBit_or,Nat.testBit_two_pow];by_cases hi:i<6
   ·rw [sR _ hi,sR s hi];show (cL s.must k).testBit (i+1)=_;rw [i8 (by omega)];have:decide (k=i+1)=decide (k-1=i):=by rw [Bool.eq_iff_iff];simp;omega
    rw [this]
   ·have e:∀t:aF,(gJ t).testBit i=false:=fun t=>by rw [gJ,show (64:Nat)=2^6 from rfl,Nat.testBit_mod_two_pow];simp [hi]
    rw [e,e];have:¬k-1=i:=by omega
    simp [this]
theorem aMU (x:aA) (p d:Nat) (n:aC) (f:Nat→Bool) (g:Nat→Nat):∀(N:Nat),(∀k<N,f k=true→lW p d (x.child n k).s≤g k)→cR p d ((iE f N).map (x.child n))≤z9 g N
 |0,_=>Nat.le_refl _
 |N+1,h=>by
  have ih:=aMU x p d n f g N fun k hk=>h k (by omega)
  rw [iE,List.map_append,zF,z9];by_cases hf:f N=true
  ·have:=h N (by omega) hf;rw [if_pos hf];simp only [List.map_cons,List.map_nil,cR];omega
  ·rw [if_neg hf];simp only [List.map_nil,cR];omega
theorem bAI {x:aA} {p:Nat} (hx:x.Fit p) (hp3:p≤3) (d:Nat) (up:Int) (n:aC) (hg:kA x p n.s):cR p d (x.kids up n)≤lW p (d+1) n.s:=by
 refine Nat.le_trans (aMV p d _ _) ?_;rw [rE];refine Nat.le_trans (aMU x p d n _ (fun j=>if vI p (gJ n.s) n.s.yard j=true then tI p d (if j=0 then gJ n.s else gJ n.s|||2^(j-1)) (decide (j=0)) else 0) _ ?_) ?_
 ·intro k hk hf;obtain ⟨h1,_,h2,h3⟩:=aX6 hx hp3 hg hf;show lW p d (x.move n.s k).1≤_;rw [if_pos h1,lW,h2,h3];exact Nat.le_refl _
 ·rw [hx.len];exact Nat.le_max_right _ _
theorem aMZ {x:aA} {p:Nat} (hx:x.Fit p) (hp3:p≤3) (d:Nat) (up:Int):∀(l:List aC),(∀n∈l,kA x p n.s)→cR p d (l.flatMap (x.kids up))≤cR p (d+1) l
 |[],_=>Nat.le_refl _
 |n :: l,h=>by
  have h1:=bAI hx hp3 d up n (h n List.mem_cons_self);have h2:=aMZ hx hp3 d up l fun m hm=>h m (List.mem_cons_of_mem _ hm)
  rw [List.flatMap_cons,zF,cR];omega
theorem aX1 {x:aA} {p:Nat} (hx:x.Fit p) (hm:x.may=true):x.meas x.rootS≤2*p+7:=by
 have hp:=hx.pairs;have hc:=hx.cars;unfold aA.meas;split
 ·rw [aA.rootS,if_pos hm]
  have h6:((List.range (2*x.pairs.toNat+1)).filter fun j:Nat=>decide (1≤j)&& !cI ({aF.zero with car:=1,time:=(x.stop 0).ready}:aF).must (j:Int)).length<((List.range (2*x.pairs.toNat+1)).filter fun _=>true).length:=
   sN _ (a:=0) (List.mem_range.2 (by omega)) rfl (by simp) (fun _ _=>rfl)
  rw [List.filter_eq_self.2 (fun _ _=>rfl),List.length_range] at h6;refine Nat.le_trans (Nat.add_le_add (Nat.le_of_lt_succ h6) (Nat.le_refl _)) ?_;show 2*x.pairs.toNat+(x.cars-1).toNat≤2*p+7;omega
 ·omega
def mV (st:aC×Bool×Int) (n:Int):List AV:=[.i st.1.s.spot,.i st.1.s.car,.i st.1.s.time,.i st.1.s.load,.i st.1.s.first,.u st.1.s.must,.u st.1.s.can,.u st.1.s.on,.i st.1.cost,.t (.sl (aJ st.1.path)),.b st.2.1,.i st.2.2,.i n]
theorem aXI (x:aA) (l:List aC) (st:aC×Bool×Int) (n:Int) {σ:Nat→aG} {nx b:Nat} (hb:b<nx) (hσb:σ b= .box (mV st n)) (hl:x.stops.length<2^31) (hll:l.length<2^20) (hn:∀n∈l,n.Fine) (hn2:∀n∈l,n.path.length<2^30):
  aT P 141 [.ptr b 0,x.a,.t (.sl (aM l))] σ nx (.t (.sl (aM (gG (x.next l st.2.2))))) (aB σ b (.box (mV (x.look st l) (IntKind.i64.wrap (n+l.length))))) nx:=by
 have hlk:x.look st l=if (x.bests l).2=true∧(x.bests l).1.cost<st.2.2 then ((x.bests l).1,true,(x.bests l).1.cost) else st:=rfl
 refine fO Tryz.func141 rfl rfl (by simp [Tryz.f141]) hb (by simp [dG,aE,aE.bndL,mV]) (by simp [aE]) fun hk B hB hnx hσ=>?_
 simp only [Tryz.f141] at hB ⊢;have hne:¬b=nx:=by omega
 have hil:(aM l).length=l.length:=List.length_map _;have hx:=xZ x l st.2.2 hl hll hn hn2;have q1:=aDG x l st.2.2;have q2:∀m∈x.next l st.2.2,m.path.length<2^31:=by intro m hm;obtain ⟨n,h,j,_,rfl,_⟩:=gZ hm;have:=hn2 n h;show (n.path++[j]).length<2^31;rw [List.length_append];simp only [List.length_cons,List.length_nil];omega
 have hf:=aVA (x.next l st.2.2) (by omega) q2;generalize x.look st l=st' at *;generalize x.next l st.2.2=M at *;generalize x.bests l=Rb at *;generalize gG M=R at *;refine aD ?_;simp [go_sem,aA.a,hσb,mV,hne,hil];have hne2:¬nx=b:=by omega
 have hne3:¬b=nx+1:=by omega
 have hne4:¬nx+1=b:=by omega
 refine cT [11,13] [0,1,2,3,4,5,6,7,8,9,10] rfl (by rw [hB];kernel_rfl) (by kernel_rfl) fun ht hf'=>?_
 refine aD ?_;simp [go_sem,ht,hf',hne,hne2,hσb,mV];refine bQ rfl rfl rfl (args:=[x.a,.t (.sl (aM l)),.i st.2.2]) (f:=138) (by simp [go_sem,aA.a]) (hx) ?_;refine aD ?_;simp [go_sem,ht,hf',fW,aC.a,aC.cs,hne,hne2,hne3,hne4,hσb,mV];obtain ⟨B1,is⟩:=Rb;simp only at hlk;cases is with
 |false=>rw [if_neg (by simp)] at hlk;subst hlk;refine bK [] rfl (by rw [hB];kernel_rfl) ?_;refine aD ?_;simp [go_sem];refine aL rfl rfl rfl (args:=[.t (.sl (aM M))]) (f:=194) (by simp [go_sem]) (by simp [go_sem,hB]) ((hf).spec _ _) ?_;refine aD ?_;simp [go_sem];exact ⟨by omega,by simp [hne3,hne,hne4],fun i h1 h2=>by simp [h2,show ¬i=nx+1 by omega,show ¬i=nx by omega]⟩
 |true=>
  by_cases c1:B1.cost<st.2.2
  ·rw [if_pos ⟨rfl,c1⟩] at hlk;subst hlk;refine bK [] rfl (by rw [hB];kernel_rfl) ?_;refine aD ?_;simp [go_sem,hne,hne2,hne3,hne4,c1];refine cT [8,11,14] [1,2,4,5] rfl (by rw [hB];kernel_rfl) (by kernel_rfl) fun ht hf'=>?_
   refine aD ?_;simp [go_sem,ht,hf',hne,hne2,hne3,hne4];refine aL rfl rfl rfl (args:=[.t (.sl (aM M))]) (f:=194) (by simp [go_sem]) (by simp [go_sem,hB]) ((hf).spec _ _) ?_;refine aD ?_;simp [go_sem];exact ⟨by omega,fun i h1 h2=>by simp [h2,show ¬i=nx+1 by omega,show ¬i=nx by omega]⟩
  ·rw [if_neg (fun h=>c1 h.2)] at hlk;subst hlk;refine bK [] rfl (by rw [hB];kernel_rfl) ?_;refine aD ?_;simp [go_sem,hne,hne2,hne3,hne4,c1];refine aL rfl rfl rfl (args:=[.t (.sl (aM M))]) (f:=194) (by simp [go_sem]) (by simp [go_sem,hB]) ((hf).spec _ _) ?_;refine aD ?_;simp [go_sem];exact ⟨by omega,by simp [hne3,hne,hne4],fun i h1 h2=>by simp [h2,show ¬i=nx+1 by omega,show ¬i=nx by omega]⟩
theorem aR6 (x:aA) (n:aC) (up most:Int) (hl:x.stops.length<2^31) (hm:most<2^20) (ho:n.s.ok) (hp:n.path.length<2^29):Pure P 91 [x.a,n.a,.i up,.i most] (aB7 (x.exact n up most)):=by
 generalize hR:x.exact n up most=R;refine aW Tryz.func91 rfl rfl (by simp [Tryz.f91]) (by simp [aE,aE.bndL,aA.a,aC.a,aC.cs]) (by simp [aE,aE.bndL,aB7,aC.a,aC.cs]) fun B hB hnx=>?_
 simp only [Tryz.f91] at hB ⊢;have hlev:=iC.root x n ho;have hmeas:=lQ x n.s;rw [aA.exact] at hR;generalize hd:x.meas n.s+1=d0 at *;generalize hK:n.path.length+x.meas n.s+1=K at *;refine aD ?_;simp [go_sem,aA.a,aC.a,aC.cs]
 refine qP (α:=Nat×(aC×Bool×Int)×List aC×Int×(Nat→aG)×Nat) 0 (fun (d,st,l,n,σ,nx)=>iC x l d K∧x.exGo most d st l n=R∧σ 0= .box x.cs∧σ 2= .box aC.zero.cs∧σ 3= .box (mV st n)∧3<nx)
  (fun (d,st,l,n,σ,nx)=>⟨sl [(3,.i most),(4,.ptr 0 0),(8,.ptr 2 0),(12,.ptr 3 0),(13,.t (.sl (aM l)))],σ,nx⟩) (fun a=>a.1) rfl ?_ ?_
 ·rintro ⟨d,st,l,n,σ,nx⟩ ⟨g1,g2,g3,g4,g5,g6⟩;have hil:(aM l).length=l.length:=List.length_map _
  have hgo:x.exGo most d st l n=match d with
   |0=>(st.1,st.2.1,true,n)
   |d+1=>if l.length=0 then (st.1,st.2.1,true,n) else if most<l.length then (st.1,st.2.1,false,n) else x.exGo most d (x.look st l) (gG (x.next l st.2.2)) (IntKind.i64.wrap (n+l.length)):=by cases d<;>rfl
  by_cases c1:l.length=0
  ·have hr:R=(st.1,st.2.1,true,n):=by
    rw [←g2,hgo];cases d with
    |zero=>rfl
    |succ d=>simp only;rw [if_pos c1]
   subst hr;by_cases c2:(0:Int)≤most
   ·refine aD ?_;simp [go_sem,hil,c1,c2];refine cT [13] [4,5,6,7,8,9,10,11,12] rfl (by rw [hB];kernel_rfl) (by kernel_rfl) fun ht hf'=>?_
    refine aD ?_;simp [go_sem,ht,hf',g4,g5,mV,aC.cs];rfl
   ·refine aD ?_;simp [go_sem,hil,c1,c2];refine cT [13] [4,5,6,7,8,9,10,11,12] rfl (by rw [hB];kernel_rfl) (by kernel_rfl) fun ht hf'=>?_
    refine aD ?_;simp [go_sem,ht,hf',g4,g5,mV,aC.cs];rfl
  cases d with
  |zero=>exact absurd (by rw [g1.empty];rfl) c1
  |succ d=>
   simp only at hgo;rw [if_neg c1] at hgo;by_cases c2:most<l.length
   ·rw [if_pos c2] at hgo;rw [hgo] at g2;subst g2;have c3:¬(l.length:Int)≤most:=by omega
    have c4:¬(l.length:Int)=0:=by omega
    refine aD ?_;simp [go_sem,hil,c1,c3,c4];refine cT [13] [4,5,6,7,8,9,10,11,12] rfl (by rw [hB];kernel_rfl) (by kernel_rfl) fun ht hf'=>?_
    refine aD ?_;simp [go_sem,ht,hf',g4,g5,mV,aC.cs];rfl
   ·rw [if_neg c2] at hgo;rw [hgo] at g2;have c3:(l.length:Int)≤most:=by omega
    have c4:0<l.length:=by omega
    have hlk:=aXI x l st n (σ:=σ) (nx:=nx) (b:=3) g6 g5 hl (by omega) (fun m h=>⟨g1.ok m h,by have:=g1.path m h;omega⟩) (fun m h=>by have:=g1.path m h;omega);refine aD ?_;simp [go_sem,hil,c1,c3,c4,g3,aA.cs];refine aL rfl rfl rfl (args:=[.ptr 3 0,x.a,.t (.sl (aM l))]) (f:=141) (by simp [go_sem,aA.a]) (by simp [go_sem,hB]) hlk ?_;refine aD ?_;simp [go_sem];refine Next.mk (d,x.look st l,gG (x.next l st.2.2),IntKind.i64.wrap (n+l.length),_,nx) ?_ (aH.slots (by simp [go_sem]) rfl rfl) (by simp only;omega);exact ⟨g1.next st.2.2,g2,by simp [aB,g3,aA.cs],by simp [aB,g4],by simp [aB],g6⟩
 ·intro J hJ;refine bG hB 14 ?_;simp [go_sem,aC.cs];refine hJ (d0,(aC.zero,false,up),[n],0,_,_) _ ?_ ((aH.looseB (b:=2) (cs:=[.i 0,.i 0,.i 0,.i 0,.i 0,.u 0,.u 0,.u 0,.i 0,.fsl []]) (by simp [aB])).trans ((aH.looseB (b:=3) (cs:=[.i 0,.i 0,.i 0,.i 0,.i 0,.u 0,.u 0,.u 0,.i 0,.fsl [],.b false,.i up,.i 0]) (by simp [aB])).trans (aH.loose.trans (aH.slots (by simp [go_sem,cQ,aM,aC.t]) rfl rfl))));exact ⟨hlev,hR,by simp [aB,aA.cs],by simp [aB,aC.zero,aF.zero,aC.cs,aJ,cQ],by simp [aB,mV,aC.zero,aF.zero,aJ,cQ],by simp only;omega⟩
def aA.rootN (x:aA):aC:=⟨x.rootS,0,[]⟩
end Go.Proofs.YtnoifgjiipgpoaaGreatDoor
