/- Texts 7 of 8 that the proof of Commits stands on. -/
import Derived.Test.YtpkkcicaeldodaaGreatDoorMgCommits6
import Derived.Deep.LoopGhost
import Derived.Laws.OwnMore
set_option linter.unusedSimpArgs false
set_option linter.unusedVariables false
set_option maxRecDepth 100000
set_option maxHeartbeats 6400000
open Go.Proofs.Tryz
namespace Go.Proofs.YtpkkcicaeldodaaGreatDoor
section
open Go.RowKit Go.Maps
def sM (l:List Nat):Int→Option Value:=fun i=>if 0≤i∧i.toNat∈l then some (.int .i64 1) else none
theorem zIntB (w:World):(zeroValue 3).run prog w= .ok (.int .i64 0) w:=by kernel_rfl
theorem sM_nil:sM []=fun _=>none:=by funext i;simp[sM]
theorem sM_at (l:List Nat) (k:Nat):sM l (k:Int)=if k∈l then some (.int .i64 1) else none:=by unfold sM;simp
theorem sM_more (l:List Nat) (k:Nat):upd (sM l) (k:Int) (some (.int .i64 1))=sM (l++[k]):=by
 funext i
 by_cases h:i=(k:Int)
 ·subst h;rw[upd_same,sM_at];simp
 ·rw[upd_other h]
  unfold sM;by_cases h0:0≤i
  ·have:i.toNat≠k:=by omega
   simp[h0,this]
  ·simp[h0]
def BP (W:World) (F:Nat→Prop) (sb:Nat) (v:Value):Option Int→Prop
 | none=>v= .pointer none
 | some k=>∃a,v= .pointer (some a)∧W.cell? a=some (.int .i64 k)∧a.block< W.heap.size∧¬F a.block∧a.block≠sb
theorem BP.chg {W W':World} {F:Nat→Prop} {sb:Nat} {v:Value} {o:Option Int} (h:BP W F sb v o) (hc:Chg (fun j=>F j∨j=sb) W W'):BP W' F sb v o:=by
 cases o with
 | none=>exact h
 | some k=>
  obtain⟨a,h1,h2,h3,h4,h5⟩:=h;exact⟨a,h1,(hc.cell h3 (fun e=>e.elim h4 h5)).trans h2,Nat.lt_of_lt_of_le h3 hc.size,h4,h5⟩
def LkOut (w w':World) (t p root sb:Nat) (F:Nat→Prop) (x:Rp) (d:Nat) (S:List Nat) (e:Ending):Prop:=
 e= .returned (.tuple #[.int .i64 d,.bool true])∧BT w' t p root F x∧IMap prog 3 w' sb (sM S) S.length∧Chg (fun j=>F j∨j=sb) w w'
structure LkJ (w3 W:World) (t p root sb b q d:Nat) (nd:Nd) (F:Nat→Prop) (x:Rp) (lo hi:Option Int) (S0 PM:List Nat) (i:Nat) (L:List KV) (P S:List Nat):Prop where
 bt:BT W t p root F x
 mp:IMap prog 3 W sb (sM S) S.length
 rest:Rest x.nd (halfN x.sz) d nd i L P
 srt:Srt L
 pg:S0++PM=S++P
 pre:∃Z,S=S0++q :: Z
 lb:∀y∈L,∀k,(if i=0 then lo else nd.keys[i - 1]?)=some k→k< y.1
 ub:∀y∈L,∀k,hi=some k→y.1< k
 chg:Chg (fun j=>F j∨j=sb) w3 W
theorem blook_any (t p root sb:Nat) (F:Nat→Prop) (x:Rp) (hsb:¬F sb∧sb≠t∧sb≠0) :
  ∀ (d q:Nat) (M:List KV) (PM S:List Nat) (lo hi:Option Int) (vlo vhi:Value) (deep:Nat) (w:World),Tr x.nd (halfN x.sz) d q M PM→((q=root)∨(root∉PM∧halfN x.sz - 1≤nk x.nd q))→(S++PM).Nodup→(S++PM).length≤100000→Srt M→(∀y∈M,∀k,lo=some k→k< y.1)→(∀y∈M,∀k,hi=some k→y.1< k)→
   BP w F sb vlo lo→BP w F sb vhi hi→deep+d≤40→BT w t p root F x→IMap prog 3 w sb (sM S) S.length→
   Calls prog 47 #[.pointer (some ⟨t,0,none⟩),.int .i64 q,.int .i64 deep,vlo,vhi,.map (some sb)] w fun e w'=>LkOut w w' t p root sb F x d (S++PM) e:=by
 intro d
 induction d using Nat.strongRecOn with
 | ind d ih=>
 intro q M PM S lo hi vlo vhi deep w ht hq hnp hsl hs hlo hhi hvlo hvhi hdp hb hmp;obtain⟨nd,hnd,hvl,hmx,hdz⟩:=ht.node;obtain⟨cp,cp1,cp2,cp3⟩:=Rp.nd_some hnd;have hft:=hb.gp.fit hnd;have hkl:nd.keys.length≤300:=by have h1:=hft.1.most;have h2:=hb.gp.szs;unfold mostN at h1;omega
 have hld:=bload_any t p root q F x cp nd w hb cp1 cp2 cp3;have hks:=ht.keys hnd hs;have hq4:q< 4096:=by have h1:=(List.getElem?_eq_some_iff.1 cp1).1;have:=hb.gp.szs;omega
 have h2h:=half_two hb.gp.szs.2.2.1;have h3h:halfN x.sz≤300:=by have:=hb.gp.szs;unfold halfN mostN;omega
 have hqS:q∉S:=fun e=>(List.nodup_append.1 hnp).2.2 q e q ht.root_mem rfl
 have hsub:nd.kvs.Sublist M:=by
  cases d with
  | zero=>obtain⟨nd',g1, -, -, -,g5, -⟩:=ht;rw[hnd] at g1;cases g1;rw[g5];exact List.Sublist.refl _
  | succ d=>obtain⟨nd',P',g1, -, -, -,g5, -⟩:=ht;rw[hnd] at g1;cases g1;exact g5.sub
 have hklo:∀a∈nd.keys,∀k,lo=some k→k< a:=fun a ha k hk=>by
  rw[←kvs_keys hvl] at ha;obtain⟨y,hy,rfl⟩:=List.mem_map.1 ha;exact hlo y (hsub.subset hy) k hk
 have hkhi:∀a∈nd.keys,∀k,hi=some k→a< k:=fun a ha k hk=>by
  rw[←kvs_keys hvl] at ha;obtain⟨y,hy,rfl⟩:=List.mem_map.1 ha;exact hhi y (hsub.subset hy) k hk
 have hsbl:sb< w.heap.size:=hmp.lt;have H:=yH (yA5 ht hq hnp hsl (yA5 hs hlo hhi hvlo (yA5 hvhi hb hmp hnd (yA5 hft hks hld hqS (yA3 hklo hkhi hvl)))));have HX:=yH (yA4 hmx hdz hsb hsub);have IH:=yH ih;have hdp1:deep≤40:=by omega
 have t0:decide ((40:Int)< (deep:Int))=false:=decide_eq_false (by omega);have hmm:= @run_makeMap prog;clear ih ht hq hnp hsl hs hlo hhi hvlo hvhi hb hmp hnd hft hks hld hqS hklo hkhi hvl hmx hdz hsub cp1 cp2 cp3;go_enter func47,ntmps47
 go_wp2_with fail
 refine(yP12 H.out).2.2.1.mono ?_;rintro e w2 ⟨b,N,rfl,hn2,hN2,hbt2,hc2⟩;have hM2:=(yP10 H.out).1.chg hc2 HX.out.2.2.1.1;have hlk:=hM2.look (t:=88) kInt underlying3 underlying88 (zIntB w2) (i:=(q:Int)) (wfInt (by omega) (by omega));rw[sM_at,if_neg (yP12 H.out).2.2.2.1] at hlk;simp only[Option.getD_none] at hlk
 obtain⟨W3,hput,hM3,hc3⟩:=hM2.put (t:=88) kInt underlying3 underlying88 (by have h9:=H.out.2.2.2.1;rw[List.length_append] at h9;simp only[maxLen];omega) (i:=(q:Int)) (wfInt (by omega) (by omega)) (.int .i64 1);rw[sM_more,sM_at,if_neg (yP12 H.out).2.2.2.1] at hM3;simp only[Option.isSome_none,Bool.false_eq_true,if_false] at hM3;have hlt3:=hbt2.gp.lt
 have hsb:=HX.out.2.2.1;have hbt3:BT W3 t p root F x:=hbt2.chg hc3 (fun j hj e=>hsb.1 (e▸hj)) (fun e=>hsb.2.2 e.symm) (fun e=>hsb.2.1 e.symm);have hn3:NdOwn W3 N b q nd:=hn2.chg hc3 fun j hj e=>by have:=hN2 j hj;omega
 have hcW:Chg (fun j=>F j∨j=sb) w W3:=Chg.trans (hc2.mono fun j _ e=> .inl e) hc3 fun j _ e=> .inr e;have hNa:∀j,N j→¬F j∧j≠sb∧j< W3.heap.size:=fun j hj=>⟨fun e=>by have:=hN2 j hj;have:=(yP8 H.out).2.1.gp.lt j e;omega,by have:=hN2 j hj;omega,hn3.at.lt j hj⟩;have hhf:=bhalf_any t p root F x
 have hM3':IMap prog 3 W3 sb (sM (S++[q])) (S++[q]).length:=by simpa using hM3
 have H3:=yH (yA5 hbt3 hn3 hcW hNa (yA hhf hM3'));obtain⟨c3,f3,s3⟩:=hbt3.blk.facts;obtain⟨Ak,ck,Av,cv,Ac,cc,bB,sK,sV,sC,nb,nK,nV,nC, -⟩:=hn3.at;obtain⟨c0,f0,s0⟩:=bB.facts;have HB:=yH (yA5 bB sK sC nb (yA nK nC));clear hn2 hN2 hbt2 hc2 hM2 hM3 hc3 hlt3 hbt3 hn3 hcW hNa hhf hM3' bB sK sV sC nb nK nV nC hmm hsb;have hmx:=HX.out.1
 have w1:wrap64 (wrap64 (2*(halfN x.sz:Int)) - 1)=2*(halfN x.sz:Int) - 1:=by rw[IntWalk.wrap64_in (2*(halfN x.sz:Int)) ⟨by omega,by omega⟩,IntWalk.wrap64_in _ ⟨by omega,by omega⟩]
 have u3:decide (wrap64 (wrap64 (2*(halfN x.sz:Int)) - 1)< (nd.keys.length:Int))=false:=by rw[w1];exact decide_eq_false (by omega)
 by_cases hqr:q=root
 case' neg=>
  have tq:((q:Int)==(root:Int))=false:=by simp;omega
  have hnk:halfN x.sz - 1≤nd.keys.length:=by
   have:=(H.out.2.1.resolve_left hqr).2;rwa[nk_eq (yP10 H.out).2.1] at this
  have u1:decide ((nd.keys.length:Int)< (halfN x.sz:Int) - 1)=false:=decide_eq_false (by omega);have u2:decide (2*(halfN x.sz:Int) - 1< (nd.keys.length:Int))=false:=decide_eq_false (by omega);have Hq:=yH hqr;clear hqr
 case' pos=>
  have tq:((q:Int)==(root:Int))=true:=by simp[hqr]
  by_cases h0:nd.kids.length=0
  case' pos=>
   have Hq:=yH (yA hqr h0);have h0':nd.kids=[]:=List.eq_nil_of_length_eq_zero h0;clear hqr;rw[h0] at c0;have m1:min (0:Int) 1=0:=rfl;have u0:decide ((nd.keys.length:Int)< min (0:Int) 1)=false:=decide_eq_false (by omega);have u1:decide ((nd.keys.length:Int)< (0:Int))=false:=decide_eq_false (by omega)
   have u2:decide (2*(halfN x.sz:Int) - 1< (nd.keys.length:Int))=false:=decide_eq_false (by omega);clear h0 h0'
  case' neg=>
   have hl1:1≤nd.keys.length:=by
    cases d with
    | zero=>exact absurd (HX.out.2.1.2 rfl) h0
    | succ d=>obtain⟨nd',P',g1, -, -,g4, -⟩:=H.out.1;rw[(yP10 H.out).2.1] at g1;cases g1;exact g4
   have hk1:1≤nd.kids.length:=by omega
   have m1:min (nd.kids.length:Int) 1=1:=by omega
   have u0:decide ((nd.keys.length:Int)< min (nd.kids.length:Int) 1)=false:=decide_eq_false (by omega);have u1:decide ((nd.keys.length:Int)< (1:Int))=false:=decide_eq_false (by omega);have u2:decide (2*(halfN x.sz:Int) - 1< (nd.keys.length:Int))=false:=decide_eq_false (by omega);have Hq:=yH (yA hqr h0);clear hqr h0
 all_goals
  go_wp2_with fail
  refine((yP4 H3.out).1 W3 H3.out.1).mono ?_;rintro e w4 ⟨rfl,rfl⟩;go_wp2_with fail
  go_quiet ((go_at_call 71;exact Calls.quiet_of_same (((yP4 H3.out).1 _ (H3.out.1.grew ((Chg.refl _ _).drewN _))).mono fun _ _ h=>⟨h.1,h.2.symm⟩)))
  go_wp2_with fail
  obtain⟨W4,hW4⟩:∃W,W3.drewN nq=W:=⟨_,rfl⟩;rw[hW4];have hg4:Grew W3 W4:=hW4▸(Chg.refl NoF W3).drewN nq;have hk4:=HB.out.2.1.grew hg4;have hc4:Chg (fun j=>F j∨j=sb) w W4:=H3.out.2.2.1.grew hg4;have H4:=yH (yA5 hg4 hk4 hc4 ((yP6 H.out).2.1.chg hc4) ((yP8 H.out).1.chg hc4));clear hg4 hk4 hc4 hW4
  go_loopg [87] (nd.keys.length) (fun n iv wr=>∃i:Nat,n=nd.keys.length - i∧i≤nd.keys.length∧iv= .int .i64 i∧wr=W4)
  case atStart=>exact⟨0,by simp,Nat.zero_le _,rfl,rfl⟩
  case round=>
   obtain⟨i,rfl,hil,rfl,hwr⟩:=hrel;replace hwr:=hwr.symm;subst hwr;by_cases hlt:i< nd.keys.length
   ·obtain⟨a,ha⟩:∃a,nd.keys[i]? =some a:=⟨_,List.getElem?_eq_getElem hlt⟩
    obtain⟨gk,ok,rfl,hgk,hxk⟩:=H4.out.2.1.2 (by omega);have hck:W4.cell? ⟨gk,ok+i,none⟩=some (.int .i64 a):=hxk i _ (by simp[iv,ha]);have hall:=(yP12 H.out).2.2.2.2.1 a (List.mem_of_getElem? ha);have hahi:=(yP12 H.out).2.2.2.2.2.1 a (List.mem_of_getElem? ha);have hpl:=H4.out.2.2.2.1;have hph:=(yP4 H4.out);have hcb:=(HB.out.1.grew H4.out.1).cell 1
    have hi2:(i:Int)< (nd.keys.length:Int):=by omega
    cases lo with
    | none=>
     obtain rfl:vlo= .pointer none:=hpl
     cases hi with
     | none=>
      obtain rfl:vhi= .pointer none:=hph;by_cases hz:i=0
      ·obtain rfl:i=0:=hz
       rw[Nat.add_zero] at hck;clear hall hahi hxk hgk;go_wp2_with fail
       go_roundg (nd.keys.length - (0+1))
       case measure=>omega
       case rel=>exact⟨0+1,rfl,by omega,by simp,rfl⟩
      ·obtain⟨j,rfl⟩:∃j,i=j+1:=⟨i - 1,by omega⟩
       obtain⟨a',ha'⟩:∃a',nd.keys[j]? =some a':=⟨_,List.getElem?_eq_getElem (by omega)⟩;have hck':W4.cell? ⟨gk,ok+j,none⟩=some (.int .i64 a'):=hxk j _ (by simp[iv,ha'])
       have hlt':a'< a:=by
        obtain⟨p1,e1⟩:=List.getElem?_eq_some_iff.1 ha;obtain⟨p2,e2⟩:=List.getElem?_eq_some_iff.1 ha';have:=List.pairwise_iff_getElem.1 (yP12 H.out).2.1 j (j+1) p2 p1 (by omega);rw[e1,e2] at this;exact this
       have t9:decide (a≤a')=false:=decide_eq_false (by omega);clear hall hahi hxk hgk ha' hlt';go_wp2_with fail
       go_roundg (nd.keys.length - ((j+1)+1))
       case measure=>omega
       case rel=>exact⟨(j+1)+1,rfl,by omega,by simp,rfl⟩
     | some kh=>
      obtain⟨ah,rfl,hch, -⟩:=hph;have t8:decide (kh≤a)=false:=decide_eq_false (by have:=hahi kh rfl;omega);by_cases hz:i=0
      ·obtain rfl:i=0:=hz
       rw[Nat.add_zero] at hck;clear hall hahi hxk hgk;go_wp2_with fail
       go_roundg (nd.keys.length - (0+1))
       case measure=>omega
       case rel=>exact⟨0+1,rfl,by omega,by simp,rfl⟩
      ·obtain⟨j,rfl⟩:∃j,i=j+1:=⟨i - 1,by omega⟩
       obtain⟨a',ha'⟩:∃a',nd.keys[j]? =some a':=⟨_,List.getElem?_eq_getElem (by omega)⟩;have hck':W4.cell? ⟨gk,ok+j,none⟩=some (.int .i64 a'):=hxk j _ (by simp[iv,ha'])
       have hlt':a'< a:=by
        obtain⟨p1,e1⟩:=List.getElem?_eq_some_iff.1 ha;obtain⟨p2,e2⟩:=List.getElem?_eq_some_iff.1 ha';have:=List.pairwise_iff_getElem.1 (yP12 H.out).2.1 j (j+1) p2 p1 (by omega);rw[e1,e2] at this;exact this
       have t9:decide (a≤a')=false:=decide_eq_false (by omega);clear hall hahi hxk hgk ha' hlt';go_wp2_with fail
       go_roundg (nd.keys.length - ((j+1)+1))
       case measure=>omega
       case rel=>exact⟨(j+1)+1,rfl,by omega,by simp,rfl⟩
    | some kl=>
     obtain⟨al,rfl,hcl, -⟩:=hpl;have t7:decide (a≤kl)=false:=decide_eq_false (by have:=hall kl rfl;omega)
     cases hi with
     | none=>
      obtain rfl:vhi= .pointer none:=hph;by_cases hz:i=0
      ·obtain rfl:i=0:=hz
       rw[Nat.add_zero] at hck;clear hall hahi hxk hgk;go_wp2_with fail
       go_roundg (nd.keys.length - (0+1))
       case measure=>omega
       case rel=>exact⟨0+1,rfl,by omega,by simp,rfl⟩
      ·obtain⟨j,rfl⟩:∃j,i=j+1:=⟨i - 1,by omega⟩
       obtain⟨a',ha'⟩:∃a',nd.keys[j]? =some a':=⟨_,List.getElem?_eq_getElem (by omega)⟩;have hck':W4.cell? ⟨gk,ok+j,none⟩=some (.int .i64 a'):=hxk j _ (by simp[iv,ha'])
       have hlt':a'< a:=by
        obtain⟨p1,e1⟩:=List.getElem?_eq_some_iff.1 ha;obtain⟨p2,e2⟩:=List.getElem?_eq_some_iff.1 ha';have:=List.pairwise_iff_getElem.1 (yP12 H.out).2.1 j (j+1) p2 p1 (by omega);rw[e1,e2] at this;exact this
       have t9:decide (a≤a')=false:=decide_eq_false (by omega);clear hall hahi hxk hgk ha' hlt';go_wp2_with fail
       go_roundg (nd.keys.length - ((j+1)+1))
       case measure=>omega
       case rel=>exact⟨(j+1)+1,rfl,by omega,by simp,rfl⟩
     | some kh=>
      obtain⟨ah,rfl,hch, -⟩:=hph;have t8:decide (kh≤a)=false:=decide_eq_false (by have:=hahi kh rfl;omega);by_cases hz:i=0
      ·obtain rfl:i=0:=hz
       rw[Nat.add_zero] at hck;clear hall hahi hxk hgk;go_wp2_with fail
       go_roundg (nd.keys.length - (0+1))
       case measure=>omega
       case rel=>exact⟨0+1,rfl,by omega,by simp,rfl⟩
      ·obtain⟨j,rfl⟩:∃j,i=j+1:=⟨i - 1,by omega⟩
       obtain⟨a',ha'⟩:∃a',nd.keys[j]? =some a':=⟨_,List.getElem?_eq_getElem (by omega)⟩;have hck':W4.cell? ⟨gk,ok+j,none⟩=some (.int .i64 a'):=hxk j _ (by simp[iv,ha'])
       have hlt':a'< a:=by
        obtain⟨p1,e1⟩:=List.getElem?_eq_some_iff.1 ha;obtain⟨p2,e2⟩:=List.getElem?_eq_some_iff.1 ha';have:=List.pairwise_iff_getElem.1 (yP12 H.out).2.1 j (j+1) p2 p1 (by omega);rw[e1,e2] at this;exact this
       have t9:decide (a≤a')=false:=decide_eq_false (by omega);clear hall hahi hxk hgk ha' hlt';go_wp2_with fail
       go_roundg (nd.keys.length - ((j+1)+1))
       case measure=>omega
       case rel=>exact⟨(j+1)+1,rfl,by omega,by simp,rfl⟩
   ·obtain rfl:i=nd.keys.length:=by omega
    obtain⟨c1',c2',c3'⟩:True∧True∧True:=⟨trivial,trivial,trivial⟩;clear hlt c1' c2' c3';have hn4:=H3.out.2.1.grew H4.out.1;have hb4:=H3.out.1.grew H4.out.1
    have hstart:∃A L0 P0,M=A++L0∧PM=q :: P0∧Rest x.nd (halfN x.sz) d nd 0 L0 P0:=by
     cases d with
     | zero=>
      obtain⟨nd',g1,g2,g3,g4,g5,g6⟩:=H.out.1;rw[(yP10 H.out).2.1] at g1
      cases g1
      exact⟨[],M,[],rfl,g6,.inl ⟨Nat.zero_le _,fun _=>⟨by rw[g5];rfl,rfl⟩,fun d' e=>by omega⟩⟩
     | succ d=>
      obtain⟨nd',P',g1,g2,g3,g4,g5,g6⟩:=H.out.1;rw[(yP10 H.out).2.1] at g1
      cases g1
      exact⟨[],M,P',rfl,g6,.inl ⟨Nat.zero_le _,fun e=>by omega,fun d' e=>by cases e;exact g5⟩⟩
    obtain⟨A0,L0,P0,r1,r2,r3⟩:=hstart;have hsL:Srt L0:=(yP4 H.out).1.sub (by rw[r1];exact List.sublist_append_right _ _)
    have hJ0:LkJ W4 W4 t p root sb b q d nd F x lo hi S PM 0 L0 P0 (S++[q]):=⟨hb4,(yP4 H3.out).2.chg H4.out.1 id,r3,hsL,by rw[r2];simp,⟨[],rfl⟩,fun y hy k hk=>(yP4 H.out).2.1 y (by rw[r1];exact List.mem_append_right _ hy) k (by simpa using hk),fun y hy k hk=>(yP6 H.out).1 y (by rw[r1];exact List.mem_append_right _ hy) k hk,Chg.refl _ _⟩
    have hMi:∀y∈L0,y∈M:=fun y hy=>by rw[r1];exact List.mem_append_right _ hy
    have HJ0:=yH (yA3 hJ0 hn4 r2);obtain⟨Ak5,ck5,Av5,cv5,Ac5,cc5,bB5,sK5, -,sC5, -⟩:=hn4.at;clear hn4 hb4 r1 r2 r3 hsL hJ0 hMi bB5 sK5 sC5;have hcb:=(HB.out.1.grew H4.out.1).cell 3;go_wp2_with fail
    go_loopg [19,134] (nd.kids.length) (fun n bl iv wr=>∃ (i:Nat) (L':List KV) (P' S':List Nat) (bv:Int),n=nd.kids.length - i∧i≤nd.kids.length∧bl= .int .i64 bv∧iv= .int .i64 i∧(i=0→bv= -1)∧(0< i→bv=(d:Int) - 1)∧LkJ W4 wr t p root sb b q d nd F x lo hi S PM i L' P' S')
    case atStart=>exact⟨0,L0,P0,S++[q], -1,by simp,Nat.zero_le _,rfl,rfl,fun _=>rfl,fun h=>by omega,HJ0.out.1⟩
    case round=>
     obtain⟨i,L',P',S',bv,rfl,hil,rfl,rfl,hbv0,hbv1,hJ⟩:=hrel;have HJ:=yH hJ;clear hJ hcb;by_cases hlt:i< nd.kids.length
     ·obtain⟨d',rfl⟩:∃d',d=d'+1:=⟨d - 1,by have hd0:d≠0:=(fun e=>by have:=HX.out.2.1.2 e;omega);omega⟩
      have hcl:nd.kids.length=nd.keys.length+1:=(yP12 H.out).1.1.kids.resolve_left (by omega);have hvl':=(yP12 H.out).2.2.2.2.2.2
      have hk1:1≤nd.keys.length:=by
       obtain⟨nd',P1,g1, -, -,g4, -⟩:=H.out.1;rw[(yP10 H.out).2.1] at g1
       cases g1
       exact g4
      by_cases hz:i=0
      ·obtain rfl:i=0:=hz
       have hbv:bv= -1:=hbv0 rfl;subst hbv;clear hbv0 hbv1;obtain⟨c,M1,Q,a,v,L2,P2,hci,hTc,ha,hv,hmem,hL2,hP2,hrest2⟩:=HJ.out.rest.inner hvl' hcl (by omega);have hsr:=HJ.out.srt;rw[hL2] at hsr;obtain⟨q1,q2,q3⟩:=srt_app.1 hsr;obtain⟨q4,q5⟩:=List.pairwise_cons.1 q2;have hsr2:Srt L2:=q5
       have hlb2:∀y∈L2,∀k,(if 0+1=0 then lo else nd.keys[0+1 - 1]?)=some k→k< y.1:=fun y hy k hk=>by
        rw[if_neg (by omega),Nat.add_sub_cancel,ha] at hk
        cases hk
        exact q4 y hy
       have hub2:∀y∈L2,∀k,hi=some k→y.1< k:=fun y hy k hk=>HJ.out.ub y (by rw[hL2];exact List.mem_append_right _ (List.mem_cons_of_mem _ hy)) k hk;have hup:∀y∈M1,∀k,some a=some k→y.1< k:=fun y hy k hk=>by cases hk;exact q3 y hy (a,v) List.mem_cons_self
       have hsM1:Srt M1:=q1;have hmm1:∀y∈M1,y∈L':=fun y hy=>by rw[hL2];exact List.mem_append_left _ hy
       clear hsr q1 q2 q3 q4 q5 hmem hv;have hNc:∀j,N j→¬ (F j∨j=sb):=fun j hj e=>e.elim (H3.out.2.2.2.1 j hj).1 (H3.out.2.2.2.1 j hj).2.1;have hWc:Chg (fun j=>F j∨j=sb) W3 wr:=Grew.then H4.out.1 HJ.out.chg;have hb5:=HB.out.1.chg hWc (hNc _ HB.out.2.2.2.1);obtain⟨gc,oc,rfl,hgc,hxc⟩:=HB.out.2.2.1.2 (by omega)
       have hcc:wr.cell? ⟨gc,oc+0,none⟩=some (.int .i64 c):=(hWc.cell (p:=⟨gc,oc+0,none⟩) hgc (hNc _ ((yP4 HB.out).2 ⟨gc,oc,none⟩ rfl))).trans (hxc (0) _ (by simp[nv,hci]));obtain⟨gk,ok,rfl,hgk,hxk⟩:=HB.out.2.1.2 (by omega);have hNk:=(yP4 HB.out).1 ⟨gk,ok,none⟩ rfl
       have hkp:∀ (m:Nat) (z:Int),nd.keys[m]? =some z→BP wr F sb (.pointer (some ⟨gk,ok+m,none⟩)) (some z):=fun m z hz=>⟨_,rfl,(hWc.cell (p:=⟨gk,ok+m,none⟩) hgk (hNc _ hNk)).trans (hxk m _ (by simp[iv,hz])),Nat.lt_of_lt_of_le hgk hWc.size,(H3.out.2.2.2.1 gk hNk).1,(H3.out.2.2.2.1 gk hNk).2.1⟩;obtain⟨Z,hZ⟩:=HJ.out.pre;have hpg:=HJ.out.pg
       have hPM:PM=q :: (Z++P'):=by
        rw[hZ] at hpg;have:S++PM=S++(q :: (Z++P')):=by rw[hpg];simp
        exact List.append_cancel_left this
       have hroot:root∉Q:=fun e=>by
        have hin:root∈Z++P':=by rw[hP2];simp[e]
        rcases H.out.2.1 with h | h
        ·have h1:=(List.nodup_append.1 H.out.2.2.1).2.1
         rw[hPM] at h1;exact(List.nodup_cons.1 h1).1 (h▸hin)
        ·exact h.1 (by rw[hPM];exact List.mem_cons_of_mem _ hin)
       have hnp2:(S'++Q).Nodup:=by
        have h1:=H.out.2.2.1;rw[hpg,hP2,←List.append_assoc] at h1;exact List.Nodup.sublist (List.sublist_append_left _ _) h1
       have hsl2:(S'++Q).length≤100000:=by
        have h1:=H.out.2.2.2.1;rw[hpg,hP2] at h1;simp only[List.length_append] at h1 ⊢;omega
       have hdp2:deep+1+d'≤40:=by omega
       have hrec:=IH.out d' (by omega) c M1 Q S' lo (some a) vlo (.pointer (some ⟨gk,ok+0,none⟩)) (deep+1) wr hTc.1 (.inr ⟨hroot,hTc.2⟩) hnp2 hsl2 hsM1 (fun y hy k hk=>HJ.out.lb y (hmm1 y hy) k (by simpa using hk)) hup (H4.out.2.2.2.1.chg HJ.out.chg) (hkp 0 a ha) hdp2 HJ.out.bt HJ.out.mp;rw[Nat.add_zero] at hrec hcc
       have t5:decide ((0:Int)< (nd.keys.length:Int))=true:=decide_eq_true (by omega);have t5':0< nd.keys.length:=by omega
       clear hup hsM1 hmm1 ha hTc;rw[show((deep+1:Nat):Int)=(deep:Int)+1 from by omega] at hrec;obtain⟨c0,f0,s0⟩:=hb5.facts;have hic:(0:Int)< (nd.kids.length:Int):=by omega
       have hic2:0< nd.kids.length:=by omega
       have HR:=yH (yA5 hrec hrest2 hpg hP2 (yA4 hZ hsr2 hlb2 hub2));clear hcl hvl';(try clear hje)
       clear hrec hrest2 hpg hP2 hZ hsr2 hlb2 hub2 hroot hnp2 hsl2 hkp hPM hxk hxc hgc hgk hNk hNc hWc hb5 hci;go_wp2_with fail
       refine HR.out.1.mono ?_;rintro e w5 ⟨rfl,hbt5,hm5,hc5⟩;have H5:=yH (yA3 hbt5 hm5 hc5);clear hbt5 hm5 hc5 c0 f0 s0 hcc;go_wp2_with fail
       go_roundg (nd.kids.length - (0+1))
       case measure=>omega
       case rel=>exact⟨0+1,L2,P2,S'++Q,(d':Int),rfl,by omega,by simp,rfl,fun e=>by omega,fun _=>by omega,H5.out.1,H5.out.2.1,HR.out.2.1,(yP4 HR.out).2.1,by rw[HR.out.2.2.1,HR.out.2.2.2.1];simp,by rw[(yP4 HR.out).1];exact⟨Z++Q,by simp⟩,(yP6 HR.out).1,(yP6 HR.out).2,Chg.trans HJ.out.chg H5.out.2.2 fun _ _ e=>e⟩
      ·obtain⟨j,rfl⟩:∃j,i=j+1:=⟨i - 1,by omega⟩
       have hbv:bv=(d':Int):=by have:=hbv1 (by omega);omega
       subst hbv;clear hbv0 hbv1;obtain⟨aj,haj⟩:∃aj,nd.keys[j]? =some aj:=⟨_,List.getElem?_eq_getElem (by omega)⟩;have hjl:j< nd.keys.length:=by omega
       by_cases hlk:j+1< nd.keys.length
       ·skip
        obtain⟨c,M1,Q,a,v,L2,P2,hci,hTc,ha,hv,hmem,hL2,hP2,hrest2⟩:=HJ.out.rest.inner hvl' hcl hlk;have hsr:=HJ.out.srt;rw[hL2] at hsr;obtain⟨q1,q2,q3⟩:=srt_app.1 hsr;obtain⟨q4,q5⟩:=List.pairwise_cons.1 q2;have hsr2:Srt L2:=q5
        have hlb2:∀y∈L2,∀k,(if (j+1)+1=0 then lo else nd.keys[(j+1)+1 - 1]?)=some k→k< y.1:=fun y hy k hk=>by
         rw[if_neg (by omega),Nat.add_sub_cancel,ha] at hk
         cases hk
         exact q4 y hy
        have hub2:∀y∈L2,∀k,hi=some k→y.1< k:=fun y hy k hk=>HJ.out.ub y (by rw[hL2];exact List.mem_append_right _ (List.mem_cons_of_mem _ hy)) k hk;have hup:∀y∈M1,∀k,some a=some k→y.1< k:=fun y hy k hk=>by cases hk;exact q3 y hy (a,v) List.mem_cons_self
        have hsM1:Srt M1:=q1;have hmm1:∀y∈M1,y∈L':=fun y hy=>by rw[hL2];exact List.mem_append_left _ hy
        clear hsr q1 q2 q3 q4 q5 hmem hv;have hNc:∀j,N j→¬ (F j∨j=sb):=fun j hj e=>e.elim (H3.out.2.2.2.1 j hj).1 (H3.out.2.2.2.1 j hj).2.1;have hWc:Chg (fun j=>F j∨j=sb) W3 wr:=Grew.then H4.out.1 HJ.out.chg;have hb5:=HB.out.1.chg hWc (hNc _ HB.out.2.2.2.1);obtain⟨gc,oc,rfl,hgc,hxc⟩:=HB.out.2.2.1.2 (by omega)
        have hcc:wr.cell? ⟨gc,oc+(j+1),none⟩=some (.int .i64 c):=(hWc.cell (p:=⟨gc,oc+(j+1),none⟩) hgc (hNc _ ((yP4 HB.out).2 ⟨gc,oc,none⟩ rfl))).trans (hxc ((j+1)) _ (by simp[nv,hci]));obtain⟨gk,ok,rfl,hgk,hxk⟩:=HB.out.2.1.2 (by omega);have hNk:=(yP4 HB.out).1 ⟨gk,ok,none⟩ rfl
        have hkp:∀ (m:Nat) (z:Int),nd.keys[m]? =some z→BP wr F sb (.pointer (some ⟨gk,ok+m,none⟩)) (some z):=fun m z hz=>⟨_,rfl,(hWc.cell (p:=⟨gk,ok+m,none⟩) hgk (hNc _ hNk)).trans (hxk m _ (by simp[iv,hz])),Nat.lt_of_lt_of_le hgk hWc.size,(H3.out.2.2.2.1 gk hNk).1,(H3.out.2.2.2.1 gk hNk).2.1⟩;obtain⟨Z,hZ⟩:=HJ.out.pre;have hpg:=HJ.out.pg
        have hPM:PM=q :: (Z++P'):=by
         rw[hZ] at hpg;have:S++PM=S++(q :: (Z++P')):=by rw[hpg];simp
         exact List.append_cancel_left this
        have hroot:root∉Q:=fun e=>by
         have hin:root∈Z++P':=by rw[hP2];simp[e]
         rcases H.out.2.1 with h | h
         ·have h1:=(List.nodup_append.1 H.out.2.2.1).2.1
          rw[hPM] at h1;exact(List.nodup_cons.1 h1).1 (h▸hin)
         ·exact h.1 (by rw[hPM];exact List.mem_cons_of_mem _ hin)
        have hnp2:(S'++Q).Nodup:=by
         have h1:=H.out.2.2.1;rw[hpg,hP2,←List.append_assoc] at h1;exact List.Nodup.sublist (List.sublist_append_left _ _) h1
        have hsl2:(S'++Q).length≤100000:=by
         have h1:=H.out.2.2.2.1;rw[hpg,hP2] at h1;simp only[List.length_append] at h1 ⊢;omega
        have hdp2:deep+1+d'≤40:=by omega
        have hrec:=IH.out d' (by omega) c M1 Q S' (some aj) (some a) (.pointer (some ⟨gk,ok+j,none⟩)) (.pointer (some ⟨gk,ok+(j+1),none⟩)) (deep+1) wr hTc.1 (.inr ⟨hroot,hTc.2⟩) hnp2 hsl2 hsM1 (fun y hy k hk=>HJ.out.lb y (hmm1 y hy) k (by rw[if_neg (by omega),Nat.add_sub_cancel,haj];exact hk)) hup (hkp j aj haj) (hkp (j+1) a ha) hdp2 HJ.out.bt HJ.out.mp
        have t5:decide (((j:Int)+1)< (nd.keys.length:Int))=true:=decide_eq_true (by omega);clear hup hsM1 hmm1 ha hTc haj;rw[show((deep+1:Nat):Int)=(deep:Int)+1 from by omega] at hrec;obtain⟨c0,f0,s0⟩:=hb5.facts;have hic:((j:Int)+1:Int)< (nd.kids.length:Int):=by omega
        have hic2:(j+1)< nd.kids.length:=by omega
        have HR:=yH (yA5 hrec hrest2 hpg hP2 (yA4 hZ hsr2 hlb2 hub2));clear hcl hvl';(try clear hje)
        clear hrec hrest2 hpg hP2 hZ hsr2 hlb2 hub2 hroot hnp2 hsl2 hkp hPM hxk hxc hgc hgk hNk hNc hWc hb5 hci;go_wp2_with fail
        refine HR.out.1.mono ?_;rintro e w5 ⟨rfl,hbt5,hm5,hc5⟩;have H5:=yH (yA3 hbt5 hm5 hc5);clear hbt5 hm5 hc5 c0 f0 s0 hcc;go_wp2_with fail
        go_roundg (nd.kids.length - ((j+1)+1))
        case measure=>omega
        case rel=>exact⟨(j+1)+1,L2,P2,S'++Q,(d':Int),rfl,by omega,by simp,rfl,fun e=>by omega,fun _=>by omega,H5.out.1,H5.out.2.1,HR.out.2.1,(yP4 HR.out).2.1,by rw[HR.out.2.2.1,HR.out.2.2.2.1];simp,by rw[(yP4 HR.out).1];exact⟨Z++Q,by simp⟩,(yP6 HR.out).1,(yP6 HR.out).2,Chg.trans HJ.out.chg H5.out.2.2 fun _ _ e=>e⟩
       ·have hje:nd.keys.length=j+1:=by omega
        obtain⟨c,hci,hTc,hrest2⟩:=(show Rest x.nd (halfN x.sz) (d'+1) nd nd.keys.length L' P' from hje▸HJ.out.rest).inner_end hvl' hcl;rw[hje] at hci hrest2;obtain⟨Q,hQ⟩:∃Q,P'=Q:=⟨_,rfl⟩;obtain⟨P2,hP20⟩:∃P2:List Nat,P2=[]:=⟨_,rfl⟩;obtain⟨L2,hL20⟩:∃L2:List KV,L2=[]:=⟨_,rfl⟩;have hP2:P'=Q++P2:=by rw[hP20,List.append_nil];exact hQ
        rw[←hP20,←hL20] at hrest2;rw[hQ] at hTc;have hsr2:Srt L2:=by rw[hL20];exact List.Pairwise.nil
        have hlb2:∀y∈L2,∀k,(if j+1+1=0 then lo else nd.keys[j+1+1 - 1]?)=some k→k< y.1:=fun y hy=>by rw[hL20] at hy;cases hy
        have hub2:∀y∈L2,∀k,hi=some k→y.1< k:=fun y hy=>by rw[hL20] at hy;cases hy
        have hNc:∀j,N j→¬ (F j∨j=sb):=fun j hj e=>e.elim (H3.out.2.2.2.1 j hj).1 (H3.out.2.2.2.1 j hj).2.1;have hWc:Chg (fun j=>F j∨j=sb) W3 wr:=Grew.then H4.out.1 HJ.out.chg;have hb5:=HB.out.1.chg hWc (hNc _ HB.out.2.2.2.1);obtain⟨gc,oc,rfl,hgc,hxc⟩:=HB.out.2.2.1.2 (by omega)
        have hcc:wr.cell? ⟨gc,oc+(j+1),none⟩=some (.int .i64 c):=(hWc.cell (p:=⟨gc,oc+(j+1),none⟩) hgc (hNc _ ((yP4 HB.out).2 ⟨gc,oc,none⟩ rfl))).trans (hxc ((j+1)) _ (by simp[nv,hci]));obtain⟨gk,ok,rfl,hgk,hxk⟩:=HB.out.2.1.2 (by omega);have hNk:=(yP4 HB.out).1 ⟨gk,ok,none⟩ rfl
        have hkp:∀ (m:Nat) (z:Int),nd.keys[m]? =some z→BP wr F sb (.pointer (some ⟨gk,ok+m,none⟩)) (some z):=fun m z hz=>⟨_,rfl,(hWc.cell (p:=⟨gk,ok+m,none⟩) hgk (hNc _ hNk)).trans (hxk m _ (by simp[iv,hz])),Nat.lt_of_lt_of_le hgk hWc.size,(H3.out.2.2.2.1 gk hNk).1,(H3.out.2.2.2.1 gk hNk).2.1⟩;obtain⟨Z,hZ⟩:=HJ.out.pre;have hpg:=HJ.out.pg
        have hPM:PM=q :: (Z++P'):=by
         rw[hZ] at hpg;have:S++PM=S++(q :: (Z++P')):=by rw[hpg];simp
         exact List.append_cancel_left this
        have hroot:root∉Q:=fun e=>by
         have hin:root∈Z++P':=by rw[hP2];simp[e]
         rcases H.out.2.1 with h | h
         ·have h1:=(List.nodup_append.1 H.out.2.2.1).2.1
          rw[hPM] at h1;exact(List.nodup_cons.1 h1).1 (h▸hin)
         ·exact h.1 (by rw[hPM];exact List.mem_cons_of_mem _ hin)
        have hnp2:(S'++Q).Nodup:=by
         have h1:=H.out.2.2.1;rw[hpg,hP2,←List.append_assoc] at h1;exact List.Nodup.sublist (List.sublist_append_left _ _) h1
        have hsl2:(S'++Q).length≤100000:=by
         have h1:=H.out.2.2.2.1;rw[hpg,hP2] at h1;simp only[List.length_append] at h1 ⊢;omega
        have hdp2:deep+1+d'≤40:=by omega
        have hrec:=IH.out d' (by omega) c L' Q S' (some aj) hi (.pointer (some ⟨gk,ok+j,none⟩)) vhi (deep+1) wr hTc.1 (.inr ⟨hroot,hTc.2⟩) hnp2 hsl2 HJ.out.srt (fun y hy k hk=>HJ.out.lb y hy k (by rw[if_neg (by omega),Nat.add_sub_cancel,haj];exact hk)) (fun y hy k hk=>HJ.out.ub y hy k hk) (hkp j aj haj) ((yP4 H4.out).chg HJ.out.chg) hdp2 HJ.out.bt HJ.out.mp
        have t5:decide (((j:Int)+1)< (nd.keys.length:Int))=false:=decide_eq_false (by omega);clear hTc haj hQ hP20 hL20;rw[show((deep+1:Nat):Int)=(deep:Int)+1 from by omega] at hrec;obtain⟨c0,f0,s0⟩:=hb5.facts;have hic:((j:Int)+1:Int)< (nd.kids.length:Int):=by omega
        have hic2:(j+1)< nd.kids.length:=by omega
        have HR:=yH (yA5 hrec hrest2 hpg hP2 (yA4 hZ hsr2 hlb2 hub2));clear hcl hvl';(try clear hje)
        clear hrec hrest2 hpg hP2 hZ hsr2 hlb2 hub2 hroot hnp2 hsl2 hkp hPM hxk hxc hgc hgk hNk hNc hWc hb5 hci;go_wp2_with fail
        refine HR.out.1.mono ?_;rintro e w5 ⟨rfl,hbt5,hm5,hc5⟩;have H5:=yH (yA3 hbt5 hm5 hc5);clear hbt5 hm5 hc5 c0 f0 s0 hcc;go_wp2_with fail
        go_roundg (nd.kids.length - ((j+1)+1))
        case measure=>omega
        case rel=>exact⟨(j+1)+1,L2,P2,S'++Q,(d':Int),rfl,by omega,by simp,rfl,fun e=>by omega,fun _=>by omega,H5.out.1,H5.out.2.1,HR.out.2.1,(yP4 HR.out).2.1,by rw[HR.out.2.2.1,HR.out.2.2.2.1];simp,by rw[(yP4 HR.out).1];exact⟨Z++Q,by simp⟩,(yP6 HR.out).1,(yP6 HR.out).2,Chg.trans HJ.out.chg H5.out.2.2 fun _ _ e=>e⟩
     ·obtain rfl:i=nd.kids.length:=by omega
      have hfin:S'=S++PM:=by
       have hpg:=HJ.out.pg
       have:P'=[]:=by
        rcases HJ.out.rest with ⟨e1,e2,e3⟩ | ⟨-, -,e⟩
        ·cases d with
         | zero=>exact(e2 rfl).2
         | succ d=>
          have:=(yP12 H.out).1.1.kids.resolve_left (fun e=>by have:=HX.out.2.1.1 e;omega);omega
        ·exact e
       rw[hpg,this,List.append_nil]
      have hbd:bv+1=(d:Int):=by
       by_cases hk0:nd.kids.length=0
       ·have:=hbv0 hk0;have:=HX.out.2.1.1 hk0;omega
       ·have:=hbv1 (by omega);omega
      have HE:=yH hfin;have hbd2:bv=(d:Int) - 1:=by omega
      subst hbd2;clear hfin hbd hbv0 hbv1;go_wp2_with fail
      go_ret2
      have h:=HJ.out;refine⟨?_,h.bt,HE.out▸h.mp,Chg.trans H4.out.2.2.1 h.chg fun _ _ e=>e⟩;congr 4
end
section
open Go.RowKit Go.Maps
theorem bcheck_any (t p root D:Nat) (L:List KV) (P:List Nat) (F:Nat→Prop) (x:Rp) (w:World) (hb:BT w t p root F x) (hs:TS x D root L P) (hD:D≤40) (hl:P.length≤100000) :
  Calls prog 14 #[.pointer (some ⟨t,0,none⟩)] w fun e w'=>e= .returned (.bool true)∧BT w' t p root F x∧Chg F w w':=by
 obtain⟨W1,hW1⟩:∃W,w.alloc (.map #[] 0)=W:=⟨_,rfl⟩;have hg1:Grew w W1:=hW1▸(Chg.refl _ _).alloc _
 have hmp:IMap prog 3 W1 w.heap.size (sM []) 0:=by
  rw[sM_nil,←hW1];exact IMap.made _ _ _
 have hFl:=hb.gp.lt;have htl:=hb.blk.lt;have hpos:=tab_pos hb.gp.tab;have hlk:=blook_any t p root w.heap.size F x ⟨fun e=>by have:=hFl _ e;omega,by omega,by omega⟩ D root L P [] none none (.pointer none) (.pointer none) 0 W1 hs.tr (.inl rfl) (by simpa using hs.nd) (by simpa using hl) hs.srt (fun _ _ k h=>by cases h) (fun _ _ k h=>by cases h) rfl rfl (by omega) (hb.grew hg1) hmp
 rw[show((0:Nat):Int)=0 from rfl] at hlk;have hmm:= @run_makeMap prog;obtain⟨c0,f0,s0⟩:=(hb.grew hg1).blk.facts;have c1:=hb.blk.cell 1;have H:=yH (yA4 hlk hW1 hg1 hFl);clear hlk hmp hb hs hg1 hW1 hFl;go_enter func14,ntmps14
 go_wp2_with (rw[H.out.2.1])
 refine H.out.1.mono ?_;rintro e w2 ⟨rfl,hb2, -,hc2⟩;have hc3:Chg F w w2:=(Chg.trans (F:=fun j=>F j∨j=w.heap.size) H.out.2.2.1.chg hc2 fun j _ e=>e).mono fun j hj e=>e.resolve_right (by omega);have H2:=yH (yA hb2 hc3);clear hb2 hc2 hc3 c0 f0 s0;go_wp2_with fail
 go_ret
 exact⟨rfl,H2.out⟩
end
section
open Go.RowKit Go.Maps
theorem newer {w w1 w2:World} {F:Nat→Prop} (h:Grew w w1) (hc:Chg F w1 w2) (hF:∀j,F j→w.heap.size≤j):Grew w w2:=Chg.trans h hc fun i hi e=>by have:=hF i e;omega
theorem newerF {w w1 w2:World} {F F':Nat→Prop} (h:Grew w w1) (hc:Rch F F' w1 w2) (hF:∀j,F j→w.heap.size≤j):∀j,F' j→w.heap.size≤j:=fun j hj=>(hc.new j hj).elim (hF j) fun e=>Nat.le_trans h.size e
theorem bawake_any (w:World) (hT:TabAt 0 tab w) :
  Calls prog 9 #[] w fun e w'=>e= .returned (.bool true)∧Grew w w':=by
 have hfr:=bfresh_any 12 64 w hT (by omega) (by omega) (by omega) (by omega) (by rw[opened12.1];omega) (by rw[opened12.2.1];omega);have H:=yH hfr;clear hfr hT;go_enter func9,ntmps9
 go_wp2_with fail
 refine H.out.mono ?_;rintro e w1 ⟨t,p,d,r,F,rfl,hr,hb,hg,hF,ht⟩;have hts:=tree0_ts (n:=12) (sz:=64) (d:=d) hr (by omega);have hp1:=bput2_any t p r 0 5 50 [] [r] F _ w1 hb (by simp[Rp.tree0,Rp.opened,Rp.begun,Rp.put]) hts (by simp) (by unfold i64;omega) (by unfold i64;omega);have H1:=yH (yA5 hp1 hts hg hF ht);clear hp1 hts hg hF ht hr hb;go_wp2_with fail
 refine H1.out.1.mono ?_;rintro e w2 hpu;obtain⟨rfl,y2,F2,D2,P2,hb2,hr2,hl2,ht2⟩:=put_sure hpu roomy12 tree0_like H1.out.2.1 (show 2≤halfN 64 by decide) (by simp);have hL2:putL [] 5 50=[(5,50)]:=rfl;rw[hL2] at ht2;have hy2:y2.sz=64:=hl2.sz;have hD2:=ht2.depth2 (by rw[hy2];decide) (by simp)
 have hp2:=bput2_any t p r D2 3 30 [(5,50)] P2 F2 y2 w2 hb2 (by rw[hl2.was];simp[Rp.opened,Rp.begun]) ht2 (by simp) (by unfold i64;omega) (by unfold i64;omega);have hg2:=newer H1.out.2.2.1 hr2.chg H1.out.2.2.2.1;have hF2:=newerF H1.out.2.2.1 hr2 H1.out.2.2.2.1;have H2:=yH (yA5 hp2 ht2 hl2 hD2 (yA hg2 hF2));clear hp2 ht2 hl2 hD2 hg2 hF2 hb2 hr2 hL2 hpu;go_wp2_with fail
 refine H2.out.1.mono ?_;rintro e w3 hpu;obtain⟨rfl,y3,F3,D3,P3,hb3,hr3,hl3,ht3⟩:=put_sure hpu roomy12 H2.out.2.2.1 H2.out.2.1 (by rw[hy2];decide) (by simp);have hL3:putL [(5,50)] 3 30=[(3,30),(5,50)]:=rfl;rw[hL3] at ht3;have hy3:y3.sz=64:=hl3.sz;have hD3:=ht3.depth2 (by rw[hy3];decide) (by simp);have hg3:=newer (yP4 H2.out).1 hr3.chg (yP4 H2.out).2
 have hF3:=newerF (yP4 H2.out).1 hr3 (yP4 H2.out).2;have hge:=bget2_any t p r (halfN y3.sz) D3 3 _ P3 F3 y3 w3 hb3 ht3.tr ht3.srt (by omega) ht3.nd;rw[show getK [((3:Int),(30:Int)),(5,50)] 3=some 30 from rfl] at hge;have H3:=yH (yA5 hge ht3 hD3 hg3 hF3);clear hge ht3 hD3 hg3 hF3 hb3 hr3 hL3 hpu hl3;go_wp2_with fail
 refine H3.out.1.mono ?_;rintro e w4 ⟨rfl,hb4,hc4⟩;have hge:=bget2_any t p r (halfN y3.sz) D3 4 _ P3 F3 y3 w4 hb4 H3.out.2.1.tr H3.out.2.1.srt (by have:=H3.out.2.2.1;omega) H3.out.2.1.nd;rw[show getK [((3:Int),(30:Int)),(5,50)] 4=none from rfl] at hge;have hg4:=newer H3.out.2.2.2.1 hc4 (yP4 H3.out);have H4:=yH (yA hge hg4);simp only[gV,gE];clear hge hg4 hb4 hc4
 go_wp2_with fail
 refine H4.out.1.mono ?_;rintro e w5 ⟨rfl,hb5,hc5⟩;have hle:=blen_any t p r D3 _ P3 F3 y3 w5 hb5 H3.out.2.1 (by simp);have hg5:=newer H4.out.2 hc5 (yP4 H3.out);have H5:=yH (yA hle hg5);simp only[gV,gE];clear hle hg5 hb5 hc5;go_wp2_with fail
 refine H5.out.1.mono ?_;rintro e w6 ⟨rfl,hb6,hc6⟩;have hch:=bcheck_any t p r D3 _ P3 F3 y3 w6 hb6 H3.out.2.1 (by have:=H3.out.2.2.1;omega) (by have:=H3.out.2.1.tr.pages (by rw[hy3];decide);simp at this;omega);have hg6:=newer H5.out.2 hc6 (yP4 H3.out);have H6:=yH (yA hch hg6);simp only[List.length_cons,List.length_nil];clear hch hg6 hb6 hc6;go_wp2_with fail
 refine H6.out.1.mono ?_;rintro e w7 ⟨rfl,hb7,hc7⟩;have H7:=yH (newer H6.out.2 hc7 (yP4 H3.out));clear hb7 hc7;go_wp2_with fail
 go_ret
 exact⟨rfl,H7.out⟩
end
section
open Go.RowKit Go.Maps
def fo (ks:List Int):List KV:=ks.foldl (fun L k=>putL L k k) []
structure OJ (w W:World) (ta pa ra tb pb rb:Nat) (Fa Fb:Nat→Prop) (ya yb:Rp) (Da Db:Nat) (La Lb:List KV) (Pa Pb:List Nat) (A:Option Addr) (Lx:List KV):Prop where
 a:BT W ta pa ra Fa ya
 b:BT W tb pb rb Fb yb
 sa:TS ya Da ra La Pa
 sb:TS yb Db rb Lb Pb
 la:(Rp.opened 400 64).like ya
 lb:(Rp.opened 400 64).like yb
 dis:∀j,Fa j→¬Fb j
 nab:¬Fa tb∧¬Fb ta
 gr:Grew w W
 fa:∀j,Fa j→w.heap.size≤j
 fb:∀j,Fb j→w.heap.size≤j
 x:Sl W 2 A Lx.length (kvs2 Lx)
 xf:∀q,A=some q→¬Fa q.block∧¬Fb q.block∧q.block< W.heap.size
section
variable {w W W':World} {ta pa ra tb pb rb:Nat} {Fa Fb F':Nat→Prop} {ya yb y':Rp} {Da Db D':Nat} {La Lb L':List KV} {Pa Pb P':List Nat} {A:Option Addr} {Lx:List KV}
end
end
section
open Go.RowKit Go.Maps
attribute [local go_sem] Oper.semAt_some
def stsL (l:List Trop):List KV:=l.foldl stL []
theorem stL_len (L:List KV) (o:Trop):(stL L o).length≤L.length+1:=by
 unfold stL;split
 ·exact putL_le _ _ _
 ·split
  ·unfold delL;have:=List.length_filter_le (fun x:KV=>decide (x.1≠o.key)) L;omega
  ·omega
theorem stsL_snoc (l:List Trop) (o:Trop):stsL (l++[o])=stL (stsL l) o:=by simp[stsL]
theorem stsL_le:∀ (l:List Trop) (L:List KV),(l.foldl stL L).length≤L.length+l.length
 | [],L=>by simp
 | o :: l,L=>by
  have h1:=stsL_le l (stL L o);have h2:=stL_len L o;simp only[List.foldl_cons,List.length_cons];omega
theorem stsL_len (l:List Trop):(stsL l).length≤l.length:=by have:=stsL_le l [];simpa [stsL] using this
structure EJ (w W:World) (t p r bx:Nat) (x0:Rp) (L:List KV) (F:Nat→Prop) (y:Rp) (D:Nat) (P:List Nat) (A:Option Addr) (c:Nat):Prop where
 bt:BT W t p r F y
 ts:TS y D r L P
 like:x0.like y
 gr:Grew w W
 fn:∀j,F j→w.heap.size≤j∧j≠bx
 xb:Blk W bx 29 #[.slice A L.length c]
 sl:Sl W 2 A L.length (kvs2 L)
 af:∀a,A=some a→¬F a.block∧a.block< W.heap.size∧a.block≠bx∧w.heap.size≤a.block
 tx:t≠bx∧bx≠0∧w.heap.size≤bx∧w.heap.size≤t
section
variable {w W W1 W2:World} {t p r bx:Nat} {x0:Rp} {L R:List KV} {F F':Nat→Prop} {y:Rp} {D:Nat} {P:List Nat} {A:Option Addr} {c:Nat}
end
end
section
open Go.RowKit Go.Maps
structure PlJ (w W:World) (t p r:Nat) (x0:Rp) (L:List KV) (F:Nat→Prop) (y:Rp) (D:Nat) (P:List Nat) (A:Option Addr):Prop where
 bt:BT W t p r F y
 ts:TS y D r L P
 like:x0.like y
 gr:Grew w W
 fn:∀j,F j→w.heap.size≤j
 sl:Sl W 2 A L.length (kvs2 L)
 af:∀a,A=some a→¬F a.block∧a.block< W.heap.size
section
variable {w W W1 W2:World} {t p r:Nat} {x0:Rp} {L R:List KV} {F F':Nat→Prop} {y:Rp} {D:Nat} {P:List Nat} {A:Option Addr}
theorem PlJ.grew (h:PlJ w W t p r x0 L F y D P A) (hg:Grew W W1):PlJ w W1 t p r x0 L F y D P A:=
 ⟨h.bt.grew hg,h.ts,h.like,Grew.trans h.gr hg,h.fn,h.sl.grew hg,fun a ha=>by have h1:=h.af a ha;have:=hg.size;exact⟨h1.1,by omega⟩⟩
theorem PlJ.kept (h:PlJ w W t p r x0 L F y D P A) (hb:BT W1 t p r F y) (hc:Chg F W W1):PlJ w W1 t p r x0 L F y D P A:=
 ⟨hb,h.ts,h.like,Chg.trans h.gr hc fun j hj e=>by have:=h.fn j e;omega,h.fn,h.sl.chg hc fun a ha=>(h.af a ha).1,fun a ha=>by have h1:=h.af a ha;have:=hc.size;exact⟨h1.1,by omega⟩⟩
theorem PlJ.step {e:Ending} (h:PlJ w W t p r x0 L F y D P A) (hs:StpOut W W1 t p r F x0 A R e) :
  ∃A' c' F' y' D' P',e= .returned (.tuple #[.slice A' R.length c',.bool true])∧PlJ w W1 t p r x0 R F' y' D' P' A':=by
 obtain⟨A',c',y',F',D',P',rfl,h1,h2,h3,h4,h5,h6⟩:=hs;have hz:=h.gr.size;exact⟨A',c',F',y',D',P',rfl,h1,h4,h3,Chg.trans h.gr h2.chg fun j hj e=>by have:=h.fn j e;omega,fun j hj=>(h2.new j hj).elim (h.fn j) fun e=>by omega,h5,fun a ha=>⟨(h6 a ha).1,(h6 a ha).2.1⟩⟩
end
end
section
open Go.RowKit Go.Maps
open Go.ChangeMaps (setBlock)
theorem imap_clear {P:Program} {k t e:TypeId} {w:World} {b s:Nat} {m:Int→Option Value} (h:IMap P k w b m s) (ht:P.underlying t=some (.map k e)) (ty:TypeId) :
  ∃w',(Builtin.clear_ #[t] ty #[.map (some b)]).run P w= .ok (.tuple #[]) w'∧IMap P k w' b (fun _=>none) 0∧Chg (fun j=>j=b) w w':=by
 obtain⟨D,⟨es,clock,hb,hf, -⟩, -⟩:=h;have hlt:b< w.heap.size:=(Array.getElem?_eq_some_iff.1 hb).1;refine⟨{ w with heap:=w.heap.setIfInBounds b (.map #[] clock) },?_,⟨.map [],⟨#[],clock,?_,⟨by simp,MapKept.stamped_empty clock,by simp⟩,Nat.le_refl _,rfl⟩,rfl,⟨fun _ _=>rfl,fun _ _ h=>by cases h⟩⟩,⟨rfl,rfl,rfl,by simp,fun j hj hn=>?_⟩⟩
 ·simp[Builtin.clear_,run_underlying ht,MapKept.run_getObj_map hb,MapKept.run_setObj_map _ hb,Result.andThen]
 ·simp[hlt]
 ·simp[Array.getElem?_setIfInBounds,Ne.symm hn]
def Dk.flushed (D:Dk):Dk:= { D with data:=fun i=>D.rd (i:Int),cache:=fun _=>none,done:=wrap64 (D.done+1) }
theorem Dk.flushed_rd (D:Dk) (i:Nat):D.flushed.rd (i:Int)=D.rd (i:Int):=by
 unfold Dk.flushed;rw[Dk.rd_none rfl];simp
theorem own_noMap {w:World} {b n s b2 s2:Nat} {e kt:TypeId} {v:Value} {xs:List Value} {P:Program} {m:Int→Option Value} (h:w.ownsRow b e n v s xs) (k:IMap P kt w b2 m s2):v.ownBlock≠some b2:=by
 intro he;rcases h.2 with ⟨rfl,_⟩ | ⟨g',cap,cur,rfl,_,hh,_⟩
 ·simp[Value.ownBlock] at he
 ·have:g'=b2:=by simpa [Value.ownBlock] using he
  subst this;obtain⟨D,⟨es,clock,hb, -⟩, -⟩:=k;rw[hh] at hb
  cases hb
structure FluJ (w W:World) (d n c g M it s q:Nat) (cs:Array Value) (vs:List Value) (cm:Int→Option Value) (left:Int→Bool):Prop where
 blk:Blk W d 120 cs
 row:∃vs',W.ownsRow 0 49 1 (.slice (some ⟨g,0,none⟩) n c) n vs'∧∀i,i< n→vs'[i]? =if left (i:Int) then vs[i]? else(match cm i with | some v=>some v | none=>vs[i]?)
 it_:IIt prog 3 W M it cm s left q
 chg:Chg (fun j=>j=g) w W
theorem dflush_ok (d:Nat) (F:Nat→Prop) (D:Dk) (w:World) (h:DS w d F D) (hd:D.down=false) (ha:D.armed=false) :
  Calls prog 65 #[.pointer (some ⟨d,0,none⟩)] w fun e w'=>e= .returned (.int .i64 0)∧DTo w w' d F D.flushed:=by
 have HC:=yH (dcommand_ok d F D w h ha)
 have hb0:∃cs,Blk w d 120 cs∧cs[5]? =some (.bool false):=by
  obtain⟨⟨A,c,M,s,vs,cm,hi⟩, -⟩:=h;exact⟨_,hi.blk,by rw[hd];rfl⟩
 obtain⟨cs0,hb0,h05⟩:=hb0;have c05:=hb0.cell 5;rw[h05] at c05;have s05:=hb0.lt;clear h hb0 h05;go_enter func65,ntmps65
 go_wp2_with fail
 refine HC.out.mono ?_;clear c05 s05;rintro e w1 ⟨rfl,F1,⟨⟨A,c,M,s,vs,cm,hi⟩,hl0⟩,hc1,hn1⟩;obtain⟨g,rfl,hg⟩:=own_block hi.row (by have:=hi.sml.1;exact Nat.lt_of_lt_of_le Nat.zero_lt_one this);obtain⟨w2,hrg,hI2,hg2,hz2⟩:=hi.map.range_ (t:=118) kInt underlying118;obtain⟨it,hit⟩:∃it,w1.heap.size=it:=⟨_,rfl⟩;rw[hit] at hrg hI2;have hsm:=hi.sml
 dsimp only at hsm;obtain⟨c0,f0,s0⟩:=hi.blk.facts;have hB2:=hi.blk.grew hg2;obtain⟨cs,hcs⟩:∃cs:Array Value,(#[.int .i64 D.sz,.slice (some ⟨g,0,none⟩) D.n c,.map (some M),.bool D.armed,.int .i64 D.left,.bool D.down,.int .i64 (wrap64 (D.done+1))]:Array Value)=cs:=⟨_,rfl⟩
 have HJ0:=yH (show FluJ w1 w2 d D.n c g M it s s cs vs cm (fun i=>(cm i).isSome) from⟨hcs▸hB2,⟨vs,own_grew hi.row hg2,fun i _=>by
  cases hm:cm (i:Int) with
  | none=>simp[hm]
  | some v=>simp[hm]⟩,hI2,hg2.chg⟩)
 have H1:=yH (yA5 hi hl0 hc1 hn1 (yA3 hg2 hit hcs));clear hi hl0 hc1 hn1 hg2 hI2 hB2 hz2;go_wp2_with fail
 clear hrg c0 f0;go_loopg [] s (fun q wr=>∃left:Int→Bool,FluJ w1 wr d D.n c g M it s q cs vs cm left)
 case atStart=>exact⟨_,HJ0.out⟩
 case round=>
  obtain⟨left,hJ⟩:=hrel;obtain⟨ob,hob⟩:=hJ.it_.has;rcases hJ.it_.next kInt underlying3 0 with ⟨h0,hl,hrun⟩ | ⟨i,v,w3,q',hli,hmi,hrun,hI3,hq,hk3,hz3,hen⟩
  ·have hbk:=hJ.blk
   rw[← (yP6 H1.out)] at hbk;obtain⟨c1,f1,s1⟩:=hbk.facts;obtain⟨w4,hcl,hm4,hc4⟩:=imap_clear hJ.it_.imap (t:=118) underlying118 0;have HD:=yH (yA4 hJ hl hm4 hc4);clear hJ hl hob hbk hm4 hc4;go_wp2
   go_ret
   refine⟨rfl,?_⟩;obtain⟨hi,hl0,hc1,hn1,hg2,hit,hcs⟩:=H1.out;obtain⟨hJ,hl,hm4,hc4⟩:=HD.out;obtain⟨vs',hr',hv'⟩:=hJ.row;have hMd:=imap_ne hi.map hi.blk;have hgM:g≠M:=fun e=>own_noMap hi.row hi.map (by simp[Value.ownBlock,e]);have hgd:g≠d:=fun e=>own_blk_ne hi.row hi.blk (by decide) (by simp[Value.ownBlock,e])
   have hcw:Chg (fun j=>j=g∨j=M) w1 w4:=Chg.trans (hJ.chg.mono fun _ _ e=> .inl e) hc4 fun j _ e=> .inr e
   have hnb:∀j,(j=g∨j=M)→NotB w1 j:=by
    rintro j (rfl | rfl)
    ·exact own_notB hi.row (by decide) rfl
    ·exact map_notB hi.map
   have hF:∀j,(j=g∨j=M)→F1 j:=by
    rintro j (rfl | rfl)
    ·exact hi.inF.2.2 _ rfl
    ·exact hi.inF.2.1
   refine⟨F1,⟨⟨some ⟨g,0,none⟩,c,M,0,vs',fun _=>none,?_,?_,hm4,fun i hin=>?_,(fun _ _=>rfl),(fun i bs hb=>by cases hb),hi.inF,⟨hsm.1,hsm.2.1,hsm.2.2.1,hsm.2.2.2.1,Nat.zero_le _⟩,hi.id⟩,fun j hj=>Nat.lt_of_lt_of_le (hl0 j hj) hcw.size⟩,Chg.trans hc1 (hcw.mono fun j _ e=>hF j e) (fun j hj e=>(hn1 j e).resolve_right (by omega)),fun j hj=>hn1 j hj⟩
   ·have:=hJ.blk.chg hc4 (by simpa using Ne.symm hMd)
    rw[←hcs] at this;exact this
   ·exact own_chg hr' hc4 (fun j hj e=>by simp[Value.ownBlock] at hj;omega)
   ·have hvi:=hv' i hin
    rw[hl,if_neg (by simp)] at hvi
    cases hm:cm (i:Int) with
    | some v=>
     rw[hm] at hvi
     cases hca:D.cache (i:Int) with
     | none=>have:=hi.no i hca;rw[hm] at this;cases this
     | some bs=>
      obtain⟨v',e1,e2,e3, -⟩:=hi.has i bs hca;rw[hm] at e1
      cases e1
      have e4:D.flushed.data i=bs:=by unfold Dk.flushed;exact Dk.rd_some hca
      rw[e4]
      exact⟨v,hvi,e2.past hcw hnb,e3⟩
    | none=>
     rw[hm] at hvi;obtain⟨v,e1,e2,e3⟩:=hi.dat i hin
     have hca:D.cache (i:Int)=none:=by
      cases hca:D.cache (i:Int) with
      | none=>rfl
      | some bs=>obtain⟨v',e1, -⟩:=hi.has i bs hca;rw[hm] at e1;cases e1
     have e4:D.flushed.data i=D.data i:=by unfold Dk.flushed;dsimp only;rw[Dk.rd_none hca];simp
     rw[e4];refine⟨v,?_,e2.past hcw hnb,e3⟩;rw[hvi];exact e1
  ·have hin:∃k:Nat,i=(k:Int)∧k< D.n∧∃A' n' c',v= .slice A' n' c':=by
    cases hca:D.cache i with
    | none=>have:=H1.out.1.no i hca;rw[hmi] at this;cases this
    | some bs=>
     obtain⟨v',e1,e2,e3,e4,e5⟩:=H1.out.1.has i bs hca;rw[hmi] at e1
     cases e1
     obtain⟨A',c',e6, -⟩:=own_shape e2.1;exact⟨i.toNat,by omega,by have e7:i< (D.n:Int):=e5;omega,A',_,c',e6⟩
   obtain⟨k,rfl,hkn,A',n',c',rfl⟩:=hin;obtain⟨vs',hr',hv'⟩:=hJ.row;have hitl:w1.heap.size≤it:=by have:=(yP4 H1.out).2.1;omega
   have hitg:it≠g:=by omega
   have hr3:=own_chg hr' hk3.chg (fun j hj e=>by simp[Value.ownBlock] at hj;omega);have hB3:=hJ.blk.kept hk3;have hst:=hr3.stored k (.slice A' n' c');have hkl:k< vs'.length:=by have:=hr'.1;rw[Nat.mul_one] at this;omega
   obtain⟨u,hu⟩:∃u,vs'[k]? =some u:=⟨_,List.getElem?_eq_getElem hkl⟩;have ck:w3.cell? ⟨g,k,none⟩=some u:=by rw[hr3.cellAt k (by rw[Nat.mul_one];exact hkn)];exact hu
   have fk:=hr3.frozenAt k;have sk:g< w3.heap.size:=(hr3.lt g rfl).2;have hB3':=hB3;rw[← (yP6 H1.out)] at hB3';obtain⟨c1,f1,s1⟩:=hB3'.facts;have u1:(k:Int)< (D.n:Int):=by omega
   have HR:=yH (yA5 hJ hr3 hv' hI3 (yA5 hk3 hst hB3 hmi (yA4 hli hitl hob hkl)));clear hJ hr3 hr' hv' hI3 hk3 hst hB3 hB3' hmi hli hitl hob hkl hu hz3;go_wp2
   obtain⟨hJ,hr3,hv',hI3,hk3,hst,hB3,hmi,hli,hitl,hob,hkl⟩:=HR.out;have hi:=H1.out.1;have hgd:g≠d:=fun e=>own_blk_ne hi.row hi.blk (by decide) (by simp[Value.ownBlock,e]);have hgM:g≠M:=fun e=>own_noMap hi.row hi.map (by simp[Value.ownBlock,e]);have hg1:=(hi.row.lt g rfl).2;obtain⟨ob3,hob3⟩:=hI3.has;go_roundg q'
   case measure=>exact hq
   case rel=>
    have hc4:Chg (fun j=>j=g) w3 (w3.setCell ⟨g,k,none⟩ (.slice A' n' c')):=(Chg.refl (fun j=>j=g) w3).setCell (p:=⟨g,k,none⟩) (fun _=>rfl) _;refine⟨_,⟨hB3.chg hc4 (Ne.symm hgd),⟨_,hst.1,fun i hin=>?_⟩,hI3.same hob3 (hc4.block M hI3.imap.lt (Ne.symm hgM)) (hob3.chg hc4 (by omega)),Chg.trans (hJ.chg.kept hk3 hitl) hc4 fun j _ e=>e⟩⟩;by_cases e:i=k
    ·subst e
     rw[List.getElem?_set_self hkl];simp[hmi]
    ·have e2:¬ (i:Int)=(k:Int):=by omega
     rw[List.getElem?_set_ne (by omega),hv' i hin];simp[e2]
end
section
open Go.RowKit Go.Maps
theorem slot_any (ep q:Nat) (A:Option Addr) (n c:Nat) (w:World) (h:ep≤9223372036854775807) (hq:ep % 2=q) :
  Calls prog 105 #[.agg #[.int .i64 ep,.slice A n c]] w fun e w'=>e= .returned (.int .i64 q)∧Grew w w':=by
 have q1:(ep:Int).tmod 2=(q:Int):=by rw[Int.tmod_eq_emod_of_nonneg (by omega)];omega
 have q2:(ep:Int) % 2=(q:Int):=by omega
 have q3:q≤1:=by omega
 clear hq;go_enter func105,ntmps105
 go_wp2
 go_ret
 exact⟨rfl,(Chg.refl _ _).alloc _⟩
theorem grp_mono:∀ (m a b:Nat),a≤m→a≤b→(grp a).length≤(grp b).length:=by
 intro m
 induction m with
 | zero=>
  intro a b ha _;obtain rfl:a=0:=by omega
  rw[grp_small (by omega)];by_cases hb:b< 128
  ·rw[grp_small hb];simp
  ·rw[grp_more (by omega)];simp
 | succ m ih=>
  intro a b ha hab;by_cases h:a< 128
  ·rw[grp_small h]
   by_cases hb:b< 128
   ·rw[grp_small hb];simp
   ·rw[grp_more (by omega)];simp
  ·rw[grp_more (u:=a) (by omega),grp_more (u:=b) (by omega)]
   have:=ih (a / 128) (b / 128) (by omega) (by omega);simp only[List.length_cons];omega
theorem grps_mono (l:List Nat) (h:∀n∈l,n< 4096):(grps l).length≤(grps (List.replicate l.length 4095)).length:=by
 induction l with
 | nil=>simp[grps]
 | cons n l ih=>
  have h1:=ih fun x hx=>h x (List.mem_cons_of_mem _ hx);have h2:=grp_mono _ (2*n) (2*4095) (Nat.le_refl _) (by have:=h n (by simp);omega);unfold grps at h1 ⊢;rw[List.length_cons,List.replicate_succ,List.flatMap_cons,List.flatMap_cons,List.length_append,List.length_append];omega
theorem body_fits {ep sz:Nat} {l:List Nat} (h:fitsN l.length sz=true) (h2:ep≤1099511627776) (hg:∀n∈l,n< 4096):(bodyL ep l).length+14≤sz:=by
 have h1:=of_decide_eq_true h;have h3:=grp_mono _ (2*ep) (2*1099511627776) (Nat.le_refl _) (by omega);have h4:=grps_mono l hg;simp only[bodyL,List.length_append,List.length_replicate] at h1 ⊢;omega
theorem rootL_len {ep sz:Nat} {l:List Nat} (h:(bodyL ep l).length+14≤sz):(rootL ep l sz).length=sz:=by
 unfold rootL;rw[List.length_append,sealL_len (by omega)];simp[tail8]
 omega
theorem save_ok (d:Nat) (F:Nat→Prop) (D:Dk) (ep:Nat) (l:List Nat) (A:Option Addr) (c:Nat) (w:World) (h:DS w d F D) (hd:D.down=false) (ha:D.armed=false) (hn:2≤D.n) (hs:Sl w 1 A l.length (nv l)) (h1:1≤ep) (h2:ep≤1099511627776) (hl:l.length≤64) (hg:∀n∈l,n< 4096) (hfit:(bodyL ep l).length+14≤D.sz) :
  Calls prog 66 #[.pointer (some ⟨d,0,none⟩),.agg #[.int .i64 ep,.slice A l.length c]] w fun e w'=>e= .returned (.int .i64 0)∧DTo w w' d F (D.wr ((ep % 2:Nat):Int) (rootL ep l D.sz)).flushed:=by
 have hsm:=h.sml;obtain⟨n,hnn⟩:∃n,l.length=n:=⟨_,rfl⟩;obtain⟨W1,hW1⟩:∃W,w.alloc (.cells #[.int .i64 ep,.slice A n c] 112)=W:=⟨_,rfl⟩;have hG1:Grew w W1:=hW1▸(Chg.refl _ _).alloc _;have hB1:Blk W1 w.heap.size 112 #[.int .i64 ep,.slice A n c]:=hW1▸Blk.new _ _ _;have H:=yH (yA5 (h.grew hG1) hd ha (hs.grew hG1) (yA5 hg hfit hnn hG1 hB1));have HW1:=yH hW1
 obtain⟨b0,hb0⟩:∃b,w.heap.size=b:=⟨_,rfl⟩;rw[hb0] at hB1;have Hb0:=yH hb0;obtain⟨q,hqq⟩:∃q,ep % 2=q:=⟨_,rfl⟩;have hq:q< 2:=by omega
 rw[hnn] at hl ⊢;rw[hqq];clear h hd ha hs hg hfit hnn hG1 hW1 hb0;go_enter func66,ntmps66
 go_wp2_with (first | (rw[HW1.out]) | (rw[Hb0.out]))
 have hS0:∀W',Grew W1 W'→W'.cell? ⟨b0,0,none⟩=some (.int .i64 ep)∧W'.cell? ⟨b0,1,none⟩=some (.slice A n c):=fun W' hc=>by
  have h8:=hB1.grew hc;exact⟨h8.cell 0,h8.cell 1⟩
 have HS0:=yH hS0;clear hS0 hB1;refine wp_region_held_drew (S:=fun W'=>W'.cell? ⟨b0,0,none⟩=some (.int .i64 ep)∧W'.cell? ⟨b0,1,none⟩=some (.slice A n c)) (by kernel_rfl) (HS0.out _ ((Chg.refl _ _).drew)) (fun hHeld=>?_);refine Todo.out (is:=[0,1]) ?_
 repeat
  refine tkH (v:=?_) rfl (Or.inl ⟨by rfl,?_⟩) hHeld ?_;rotate_left
  ·(intro w hSw;(try dsimp only at hSw);go_simp)<;>with_reducible rfl
  (try simp only[Act.put,lZ])
 refine Todo.fin ?_;refine rdH (i:=2) (by kernel_rfl) rfl fun K hK=>?_;go_simp;refine(dsize_any d F D _ (H.out.1.grew ((Chg.refl _ _).drew))).mono ?_;rintro e w2 ⟨rfl,rfl⟩;refine hK.out _ _ (HS0.out _ ((Chg.refl _ _).drew)) (fun hHeld=>?_);clear hK K;(try simp only[Act.put,lZ])
 refine rdH (i:=3) (by kernel_rfl) rfl fun K hK=>?_;go_simp;have hby:=rbytes_ok ep l D.sz A c W1.drew (H.out.2.2.2.1.grew ((Chg.refl _ _).drew)) h1 h2 (by rw[(yP6 H.out).1];exact hl) (yP4 H.out).1 hsm.2.2.2 (yP4 H.out).2.1;rw[(yP6 H.out).1] at hby
 refine hby.mono ?_;clear hby
 rintro e w3 ⟨A3,c3,rfl,ho3,hg3⟩;have H3:=yH (yA ho3 (show Grew W1 w3 from Grew.trans ((Chg.refl NoF W1).drew) hg3));clear ho3 hg3;refine hK.out _ _ (HS0.out _ H3.out.2) (fun hHeld=>?_);clear hK K;(try simp only[Act.put,lZ])
 refine rdH (i:=4) (by kernel_rfl) rfl fun K hK=>?_;go_simp;refine hK.out _ _ hHeld (fun hHeld=>?_);clear hK K;(try simp only[Act.put,lZ])
 refine Todo.out (is:=[5,6]) ?_
 repeat
  refine tkH (v:=?_) rfl (Or.inl ⟨by rfl,?_⟩) hHeld ?_;rotate_left
  ·(intro w hSw;(try dsimp only at hSw);go_simp)<;>with_reducible rfl
  (try simp only[Act.put,lZ])
 refine Todo.fin ?_;refine rdH (i:=7) (by kernel_rfl) rfl fun K hK=>?_;go_simp;refine hK.out _ _ hHeld (fun hHeld=>?_);clear hK K;(try simp only[Act.put,lZ])
 refine rdH (i:=8) (by kernel_rfl) rfl fun K hK=>?_;go_simp;refine hK.out _ _ hHeld (fun hHeld=>?_);clear hK K;(try simp only[Act.put,lZ])
 refine wpAnyH_done (by kernel_rfl) ?_ _;have c0:=(HS0.out _ H3.out.2).1;have c1:=(HS0.out _ H3.out.2).2;clear hHeld HS0;obtain⟨gA,rfl,hgA⟩:=own_block H3.out.1 (by omega);have hd3:DS w3 d F D:=H.out.1.grew H3.out.2;obtain⟨nD,hnD⟩:∃nD,D.n=nD:=⟨_,rfl⟩;have hdn:2≤nD:=hnD▸hn;have t1:decide ((nD:Int)< 2)=false:=decide_eq_false (by omega)
 have hse:=dsectors_any d F D w3 hd3;rw[hnD] at hse;have hsl:=slot_any ep q A n c w3 (by omega) hqq;have hlen:=rootL_len (yP4 H.out).2.1;have H4:=yH (yA4 hd3 hse hsl hlen);have hgF:¬F gA:=fun e=>by have:=(H3.out.1.lt gA rfl).1;have:=hd3.2 gA e;have:=H.out.1.2 gA e;have h9:W1.drew.heap.size=W1.heap.size:=rfl;omega
 have HgF:=yH hgF;clear hd3 hse hsl hlen hgF
 go_wp2_with (first
  | (go_at_call 76;(refine H4.out.2.1.mono ?_);rintro e w4 ⟨rfl,rfl⟩)
  | (go_at_call 105;(refine H4.out.2.2.1.mono ?_);rintro e w4 ⟨rfl,hg4⟩;have H5:=yH hg4;clear hg4))
 have hwr:=dwrite_ok d (q:Int) (rootL ep l D.sz) (some ⟨gA,0,none⟩) (by simp) c3 F D w4 (H4.out.1.grew H5.out) H.out.2.1 H.out.2.2.1 (by omega) (by omega) H4.out.2.2.2 (by rw[H4.out.2.2.2];exact(Sl.of_own (own_base H3.out.1 (Nat.zero_le _))).grew H5.out);rw[H4.out.2.2.2] at hwr;have HW:=yH hwr;clear hwr c0 c1;refine HW.out.mono ?_;rintro e w5 ⟨rfl,F5,hd5,hc5,hn5⟩
 have hF5:Chg F w w5∧∀j,F5 j→F j∨w.heap.size≤j:=⟨Grew.then (yP6 H.out).2.1 (Grew.then H3.out.2 (Grew.then H5.out hc5)),fun j hj=>(hn5 j hj).imp id fun e=>by have h1:=(yP6 H.out).2.1.size;have h2:=H3.out.2.size;have h3:=H5.out.size;omega⟩;have HF:=yH (yA (dflush_ok d F5 _ w5 hd5 H.out.2.1 H.out.2.2.1) hF5);clear hd5 hc5 hn5 hF5;go_wp2_with fail
 refine HF.out.1.mono ?_;rintro e w6 ⟨rfl,F6,h6,hc6,hn6⟩;have H6:=yH (yA3 h6 hc6 hn6);clear h6 hc6 hn6;go_wp2_with fail
 go_ret
 exact⟨rfl,F6,H6.out.1,Chg.trans HF.out.2.1 H6.out.2.1 fun i hi e=>(HF.out.2.2 i e).resolve_right (by omega),fun j hj=>(H6.out.2.2 j hj).elim (HF.out.2.2 j) fun e=> .inr (Nat.le_trans HF.out.2.1.size e)⟩
end
section
open Go.RowKit Go.Maps
theorem own_apart {w:World} {b1 b2 n1 n2 s1 s2:Nat} {e1 e2:TypeId} {v1 v2:Value} {xs ys:List Value} (h:w.ownsRow b1 e1 s1 v1 n1 xs) (k:w.ownsRow b2 e2 s2 v2 n2 ys) (he:e1≠e2):∀g,v2.ownBlock=some g→v1.ownBlock≠some g:=by
 intro g hg h1;rcases h.2 with ⟨rfl,_⟩ | ⟨g1,c1,cur1,rfl,_,hh,_⟩
 ·simp[Value.ownBlock] at h1
 ·have e:g1=g:=by simpa [Value.ownBlock] using h1
  subst e;exact own_blk_ne k (show Blk w g1 e1 cur1 from hh) (Ne.symm he) hg
theorem pairs_eq {α:Type} (a b:Nat→α):∀r,((List.range r).flatMap fun i=>[a i,b i])=(List.range (2*r)).map fun q=>if q % 2=0 then a (q / 2) else b (q / 2)
 | 0=>rfl
 | r+1=>by
  rw[List.range_succ,List.flatMap_append,pairs_eq a b r,show 2*(r+1)=2*r+1+1 by omega,List.range_succ,List.range_succ,List.map_append,List.map_append];simp only[List.flatMap_cons,List.flatMap_nil,List.append_nil,List.map_cons,List.map_nil,List.append_assoc,List.cons_append,List.nil_append]
  rw[if_pos (by omega),if_neg (by omega),show 2*r / 2=r by omega,show(2*r+1) / 2=r by omega]
def secL (tb:List Nat) (row sz k i:Nat):List Int:=
 (List.range sz).map fun q=>if q / 2< i∧q / 2< row then(if q % 2=0 then((tb.getD (k*row+q / 2) 0 % 256:Nat):Int) else((tb.getD (k*row+q / 2) 0 / 256 % 256:Nat):Int)) else 0
theorem secL_len (tb:List Nat) (row sz k i:Nat):(secL tb row sz k i).length=sz:=by simp[secL]
theorem secL_zero (tb:List Nat) (row sz k:Nat):secL tb row sz k 0=List.replicate sz 0:=by
 apply List.ext_getElem (by simp[secL])
 intro q h1 h2;simp[secL]
theorem secL_step (tb:List Nat) {row sz k i v:Nat} (hi:i< row) (hz:2*row≤sz) (hv:tb[k*row+i]? =some v):((secL tb row sz k i).set (2*i) ((v % 256:Nat):Int)).set (2*i+1) ((v / 256 % 256:Nat):Int)=secL tb row sz k (i+1):=by
 have hg:tb.getD (k*row+i) 0=v:=by rw[List.getD_eq_getElem?_getD,hv];rfl
 apply List.ext_getElem (by simp[secL])
 intro q h1 h2;have hq:q< sz:=by simpa [secL] using h2
 rw[List.getElem_set,List.getElem_set];simp only[secL,List.getElem_map,List.getElem_range];by_cases e1:2*i+1=q
 ·subst e1
  rw[if_pos rfl,if_pos ⟨by omega,by omega⟩,if_neg (by omega),show(2*i+1) / 2=i by omega,hg]
 ·rw[if_neg e1]
  by_cases e2:2*i=q
  ·subst e2
   rw[if_pos rfl,if_pos ⟨by omega,by omega⟩,if_pos (by omega),show 2*i / 2=i by omega,hg]
  ·rw[if_neg e2]
   have e3:(q / 2< i∧q / 2< row)↔(q / 2< i+1∧q / 2< row):=by omega
   simp only[e3]
theorem secL_full {tb:List Nat} {row sz k m:Nat} (hz:2*row≤sz) (hm:m≤row) (hl:m< row→tb.length≤k*row+m):secL tb row sz k m=tabL tb row sz k:=by
 unfold tabL;rw[pairs_eq];apply List.ext_getElem (by simp[secL];omega)
 intro q h1 h2;have hq:q< sz:=by simpa [secL] using h1
 simp only[secL,List.getElem_map,List.getElem_range];by_cases e1:q< 2*row
 ·rw[List.getElem_append_left (by simpa using e1)]
  simp only[List.getElem_map,List.getElem_range];by_cases e2:q / 2< m
  ·rw[if_pos ⟨e2,by omega⟩]
  ·rw[if_neg (by omega)]
   have e3:tb.getD (k*row+q / 2) 0=0:=by
    rw[List.getD_eq_getElem?_getD,List.getElem?_eq_none (by have:=hl (by omega);omega)];rfl
   rw[e3];split<;>rfl
 ·rw[List.getElem_append_right (by simpa using e1),if_neg (by omega)]
  simp
def someB (tb:List Nat) (row k i:Nat):Bool:=(List.range i).any fun j=>tb.getD (k*row+j) 0 !=0
theorem someB_step {tb:List Nat} {row k i v:Nat} (hv:tb[k*row+i]? =some v):someB tb row k (i+1)=(someB tb row k i || v !=0):=by
 unfold someB;rw[List.range_succ,List.any_append];simp[List.getD_eq_getElem?_getD,hv]
theorem someB_full {tb:List Nat} {row k m:Nat} (hm:m≤row) (hl:m< row→tb.length≤k*row+m):someB tb row k m=someB tb row k row:=by
 unfold someB;rw[Bool.eq_iff_iff];simp only[List.any_eq_true,List.mem_range,bne_iff_ne];constructor
 ·rintro⟨j,hj,e⟩;exact⟨j,by omega,e⟩
 ·rintro⟨j,hj,e⟩
  refine⟨j,?_,e⟩;by_cases h:j< m
  ·exact h
  ·exfalso
   apply e
   rw[List.getD_eq_getElem?_getD,List.getElem?_eq_none (by have:=hl (by omega);omega)];rfl
theorem gsector_any (p k:Nat) (F:Nat→Prop) (X:Gp) (w:World) (h:GS w p F X) (hrow:X.row=X.D.sz / 2) (hk:k< 64) (hkr:k*X.row< X.table.length) (hl:X.table.length≤4096) (ht:∀s∈X.table,s< 4096) :
  Calls prog 103 #[.pointer (some ⟨p,0,none⟩),.int .i64 k] w fun e w'=>
   ∃A c,e= .returned (.tuple #[.slice A X.D.sz c,.bool (someB X.table X.row k X.row)])∧w'.ownsRow w.heap.size 5 1 (.slice A X.D.sz c) X.D.sz (bv (tabL X.table X.row X.D.sz k))∧Grew w w':=by
 have hsz:=gsize_any p F X w h;obtain⟨L,d,b,A,ca,vp,vt,vo,h,hF⟩:=h;have hsm:=h.dsk.sml;obtain⟨T,hT⟩:∃T,X.table.length=T:=⟨_,rfl⟩;obtain⟨row,hr⟩:∃r,X.row=r:=⟨_,rfl⟩;obtain⟨sz,hs⟩:∃r,X.D.sz=r:=⟨_,rfl⟩;obtain⟨lo,hlo⟩:∃lo,k*row=lo:=⟨_,rfl⟩;obtain⟨hi,hhi⟩:∃hi,(if lo+row≤T then lo+row else T)=hi:=⟨_,rfl⟩;have hown:=h.tbl
 obtain⟨At,ct,rfl,hct⟩:=own_shape hown;obtain⟨gt,rfl,hgt⟩:=own_block hown (by omega);rw[hT] at hct hl hkr hown;rw[hr] at hrow hkr;rw[hs] at hsm hsz hrow;rw[hlo] at hkr;have hB:=h.blk;rw[hr,hT] at hB;have hlh:lo≤hi∧hi≤T∧hi≤lo+row:=by rw[←hhi];split<;>omega
 obtain⟨h1,h2,h3⟩:=hlh;have q1:(k:Int)*(row:Int)=(lo:Int):=by rw[←hlo];simp
 have q2:((k:Int)+1)*(row:Int)=((lo+row:Nat):Int):=by rw[Int.add_mul,q1];simp
 have v1:hi≤ct:=by omega
 have v2:¬ (ct=lo):=by omega
 have w1:IntKind.i64.wrap (lo:Int)=(lo:Int):=wrap_nat (by omega);have w3:IntKind.i64.wrap ((k:Int)+1)=(k:Int)+1:=by have:=wrap_nat (n:=k+1) (by omega);simpa using this
 have w4:IntKind.i64.wrap ((lo+row:Nat):Int)=((lo+row:Nat):Int):=wrap_nat (by omega);have w5:min ((lo+row:Nat):Int) (T:Int)=(hi:Int):=by rw[←hhi];split<;>omega
 have w6:min ((lo:Int)+(row:Int)) (T:Int)=(hi:Int):=by rw[←w5];simp
 have w7:IntKind.i64.wrap ((lo:Int)+(row:Int))=(lo:Int)+(row:Int):=by rw[←Int.natCast_add];exact w4
 obtain⟨w2,hmk0,ho2,hg2,hz2⟩:=make_bytes sz w (by omega);obtain⟨g,hg⟩:∃g,w.heap.size=g:=⟨_,rfl⟩;rw[hg] at hmk0 ho2;have hmk:(Instr.makeSlice 49 (.int .i64 sz) (.int .i64 sz)).run prog w= .ok (.slice (some ⟨g,0,none⟩) sz sz) w2:=hmk0;have hB2:=hB.grew hg2;obtain⟨c0,f0,s0⟩:=hB2.facts
 have H:=yH (yA5 hsz (own_grew hown hg2) ho2 hg2 (yA5 ht hhi hrow hlo (yA hT hg)));rw[hs,hr];clear h hF hsz hown hB hB2 ho2 hg2 hz2 hmk0 ht hhi hrow hr hs hlo hT hg;go_enter func103,ntmps103
 go_wp2_with (go_at_call 58;(refine H.out.1.mono ?_);rintro e w1 ⟨rfl,rfl⟩)
 have c2:=c0 2;have c4:=c0 4;simp only[List.getElem?_toArray,List.getElem?_cons_zero,List.getElem?_cons_succ] at c2 c4;clear hmk c0 f0;refine wp_region_held_drew (S:=fun W'=>W'.cell? ⟨p,2,none⟩=some (.int .i64 row)∧W'.cell? ⟨p,4,none⟩=some (.slice (some ⟨gt,0,none⟩) T ct)) (by kernel_rfl) ⟨c2,c4⟩ (fun hHeld=>?_)
 refine Todo.out (is:=[0,1,2,3,4,5,6,7,8,9,10,11,12,13,14,15,16,17,18,19,20,21,22,23,24,25]) ?_
 repeat
  refine tkH (v:=?_) rfl (Or.inl ⟨by rfl,?_⟩) hHeld ?_;rotate_left
  ·(intro w hSw;(try dsimp only at hSw);go_simp)<;>with_reducible rfl
  (try simp only[Act.put,lZ])
 refine Todo.fin ?_;refine wpAnyH_done (by kernel_rfl) ?_ _;clear hHeld;obtain⟨m,hm⟩:∃m,hi - lo=m:=⟨_,rfl⟩;rw[hm];obtain⟨W9,hw9⟩:∃W9,w2.drew=W9:=⟨_,rfl⟩
 have HJ0:=yH (show W9.ownsRow g 5 1 (.slice (some ⟨g,0,none⟩) sz sz) sz (bv (secL X.table row sz k 0))∧W9.ownsRow 0 3 1 (.slice (some ⟨gt,0,none⟩) T ct) T (nv X.table)∧Grew w W9 from by
  subst hw9;rw[secL_zero];exact⟨H.out.2.2.1,H.out.2.1,H.out.2.2.2.1.drew⟩)
 have HM:=yH hm;rw[hw9];clear hm hw9 w1 w3 w4 w5 w6 w7 v1 v2 c2 c4;have hm1:m≤row:=by have:=HM.out;omega
 have hm2:lo+m≤T:=by have:=HM.out;omega
 have hrz:2*row≤sz:=by have:=(yP6 H.out).1;omega
 go_wp2_with fail
 go_loopg [7,38] m (fun q sb v wr=>∃i:Nat,q=m - i∧i≤m∧sb= .bool (someB X.table row k i)∧v= .int .i64 i∧wr.ownsRow g 5 1 (.slice (some ⟨g,0,none⟩) sz sz) sz (bv (secL X.table row sz k i))∧wr.ownsRow 0 3 1 (.slice (some ⟨gt,0,none⟩) T ct) T (nv X.table)∧Grew w wr)
 case atStart=>exact⟨0,rfl,Nat.zero_le _,rfl,rfl,HJ0.out.1,HJ0.out.2.1,HJ0.out.2.2⟩
 case round=>
  obtain⟨i,rfl,hi2,rfl,rfl,ho,ht,hg⟩:=hrel;by_cases hlt:i< m
  ·obtain⟨s,hs⟩:∃s,X.table[lo+i]? =some s:=⟨_,List.getElem?_eq_getElem (by rw[(yP8 H.out).1];omega)⟩
   have hs4:=(yP4 H.out).1 s (List.mem_of_getElem? hs)
   have ce:wr.cell? ⟨gt,lo+i,none⟩=some (.int .i64 s):=by
    have:=ht.cells (g:=gt) rfl (lo+i) (.int .i64 s) (by simp[nv,hs]);rwa[Addr.add_lit,Nat.zero_add] at this
   obtain⟨u0,hu0⟩:∃u,wr.cell? ⟨g,2*i,none⟩=some u:=by
    rw[ho.cellAt (2*i) (by omega)];exact⟨_,List.getElem?_eq_getElem (by rw[bv_len,secL_len];omega)⟩
   obtain⟨u1,hu1⟩:∃u,wr.cell? ⟨g,2*i+1,none⟩=some u:=by
    rw[ho.cellAt (2*i+1) (by omega)];exact⟨_,List.getElem?_eq_getElem (by rw[bv_len,secL_len];omega)⟩
   have fr0:=ho.frozenAt (2*i);have fr1:=ho.frozenAt (2*i+1);have sg:g< wr.heap.size:=(ho.lt g rfl).2;have hsm2:s / 256≤255:=by omega
   have b1:2*(i:Int)< (sz:Int):=by omega
   have b2:2*(i:Int)+1< (sz:Int):=by omega
   have hst:=(((ho.stored (2*i) (.int .u8 ((s:Int) % 256))).1).stored (2*i+1) (.int .u8 ((s:Int) / 256))).1;have hs2:X.table[k*row+i]? =some s:=by rw[(yP6 H.out).2.1];exact hs
   have hsb:=someB_step (row:=row) hs2;have hn0:((s:Int) !=0)=(s !=0):=by cases s<;>simp<;>omega
   obtain⟨sb,hsbv⟩:∃sb,someB X.table row k i=sb:=⟨_,rfl⟩
   have hwr:Grew w ((wr.setCell ⟨g,2*i,none⟩ (.int .u8 ((s:Int) % 256))).setCell ⟨g,2*i+1,none⟩ (.int .u8 ((s:Int) / 256))):=by
    have h9:=(yP8 H.out).2;exact(hg.setCell (p:=⟨g,2*i,none⟩) (fun e=>absurd e (by simp only;omega)) _).setCell (p:=⟨g,2*i+1,none⟩) (fun e=>absurd e (by simp only;omega)) _
   have htt:((wr.setCell ⟨g,2*i,none⟩ (.int .u8 ((s:Int) % 256))).setCell ⟨g,2*i+1,none⟩ (.int .u8 ((s:Int) / 256))).ownsRow 0 3 1 (.slice (some ⟨gt,0,none⟩) T ct) T (nv X.table):=by
    have hgg:gt≠g:=fun e=>own_apart ho ht (by decide) gt rfl (by simp[Value.ownBlock,e]);refine own_chg ht (((Chg.refl (fun j=>j=g) wr).setCell (p:=⟨g,2*i,none⟩) (fun _=>rfl) _).setCell (p:=⟨g,2*i+1,none⟩) (fun _=>rfl) _) (fun q hq e=>?_);simp[Value.ownBlock] at hq
    omega
   have hrow:((bv (secL X.table row sz k i)).set (2*i) (.int .u8 ((s:Int) % 256))).set (2*i+1) (.int .u8 ((s:Int) / 256))=bv (secL X.table row sz k (i+1)):=by
    rw[←secL_step X.table (show i< row by omega) hrz hs2];unfold bv;rw[List.map_set,List.map_set,show((s % 256:Nat):Int)=(s:Int) % 256 by omega,show((s / 256 % 256:Nat):Int)=(s:Int) / 256 by omega]
   rw[hrow] at hst;have HR:=yH (yA5 hst htt hwr hsb hsbv);rw[hsbv];clear hs hs2 hst ho ht hg hsb hsbv hwr htt hrow
   cases sb with
   | true=>
    go_wp2
    go_roundg (m - (i+1))
    case measure=>omega
    case rel=>exact⟨i+1,rfl,by omega,by rw[HR.out.2.2.2.1,(yP4 HR.out)];rfl,by simp,HR.out.1,HR.out.2.1,HR.out.2.2.1⟩
   | false=>
    go_wp2
    go_roundg (m - (i+1))
    case measure=>omega
    case rel=>exact⟨i+1,rfl,by omega,by rw[HR.out.2.2.2.1,(yP4 HR.out),←hn0];rfl,by simp,HR.out.1,HR.out.2.1,HR.out.2.2.1⟩
  ·obtain rfl:i=m:=by omega
   have hfull:=secL_full (tb:=X.table) (k:=k) hrz hm1 (fun h=>by have h1:=HM.out;have h2:=(yP4 H.out).2.1;have h3:=(yP6 H.out).2.1;have h4:=(yP8 H.out).1;split at h2<;>omega)
   have hsome:=someB_full (tb:=X.table) (row:=row) (k:=k) hm1 (fun h=>by have h1:=HM.out;have h2:=(yP4 H.out).2.1;have h3:=(yP6 H.out).2.1;have h4:=(yP8 H.out).1;split at h2<;>omega);have HD:=yH (yA4 ho hg hfull hsome);clear ho ht hg hfull hsome;go_wp2
   go_ret2
   refine⟨some ⟨g,0,none⟩,sz,by rw[←HD.out.2.2.2];rfl,?_,HD.out.2.1⟩;rw[(yP8 H.out).2,←HD.out.2.2.1];exact HD.out.1
end
section
open Go.RowKit Go.Maps
theorem tabL_byte (tb:List Nat) (row sz k:Nat):∀x∈tabL tb row sz k,0≤x∧x≤255:=by
 intro x hx;unfold tabL at hx;rcases List.mem_append.1 hx with e | e
 ·obtain⟨i, -,e⟩:=List.mem_flatMap.1 e
  simp only[List.mem_cons,List.not_mem_nil,or_false] at e;rcases e with rfl | rfl<;>omega
 ·have:=(List.mem_replicate.1 e).2;omega
theorem tabL_len {tb:List Nat} {row sz k:Nat} (h:2*row≤sz):(tabL tb row sz k).length=sz:=by
 unfold tabL;rw[pairs_eq];simp
 omega
theorem tabL_congr {tb tb':List Nat} {row sz k:Nat} (h:∀i,i< row→tb.getD (k*row+i) 0=tb'.getD (k*row+i) 0):tabL tb row sz k=tabL tb' row sz k:=by
 unfold tabL;rw[List.flatMap_def,List.flatMap_def,List.map_congr_left fun i hi=>by rw[h i (List.mem_range.1 hi)]]
structure TbS where
 D:Dk
 fe:List Bool
 fr:Nat→Bool
 lf:List Nat
 pg:List Nat
def TbS.left (S:TbS) (k s:Nat):TbS:= { S with lf:=if s≤1 then S.lf else S.lf++[s],pg:=S.pg.set k 0 }
def TbS.lay (S:TbS) (k s j:Nat) (bs:List Int):TbS:= { D:=S.D.wr j bs,fe:=trn S.fe j,fr:=setB S.fr j true,lf:=if s≤1 then S.lf else S.lf++[s],pg:=S.pg.set k j }
structure TInv (D0:Dk) (pg0 tb old:List Nat) (fr0:Nat→Bool) (S:TbS) (dn:Nat→Bool) (rem:Nat):Prop where
 n:S.D.n=D0.n∧S.D.sz=D0.sz∧S.D.down=D0.down∧S.D.armed=D0.armed∧S.D.id=D0.id
 byt:∀s:Nat,s< D0.n→∀x∈S.D.rd (s:Int),0≤x∧x≤255
 fel:S.fe.length=D0.n
 pgl:S.pg.length=pg0.length
 keep:∀k:Nat,dn k=false→S.pg[k]? =pg0[k]?
 new:∀k s:Nat,dn k=true→S.pg[k]? =some s→(s=0∧someB tb (D0.sz / 2) k (D0.sz / 2)=false)∨(2≤s∧S.fr s=true∧fr0 s=false∧S.D.rd (s:Int)=tabL tb (D0.sz / 2) D0.sz k∧someB tb (D0.sz / 2) k (D0.sz / 2)=true)
 frr:∀s,S.fr s=true→fr0 s=true∨∃k:Nat,dn k=true∧S.pg[k]? =some s
 frk:∀s,fr0 s=true→S.fr s=true
 frn:∀s,S.fr s=true→2≤s∧s< D0.n∧(∀k:Nat,pg0[k]? ≠some s)∧∀i:Nat,old[i]? ≠some s
 jP:∀i j s:Nat,S.pg[i]? =some s→S.pg[j]? =some s→s≠0→i=j
 acct:∀s,s< D0.n→(S.fe.getD s false=false↔s< 2∨(∃k:Nat,pg0[k]? =some s)∨(∃i:Nat,old[i]? =some s)∨S.fr s=true)
 lf:S.lf.Nodup∧∀s,s∈S.lf↔(2≤s∧∃i:Nat,old[i]? =some s∧tb[i]? ≠some s)∨(s≠0∧∃k:Nat,dn k=true∧pg0[k]? =some s)
 rd:∀s:Nat,(S.fr s=true→fr0 s=true)→S.D.rd (s:Int)=D0.rd (s:Int)
 room:rem≤cnt S.fe
section
variable {D0:Dk} {ep:Nat} {pg0 tb old lf0:List Nat} {fe0:List Bool} {fr0 tc dn:Nat→Bool} {S:TbS} {k s j rem:Nat}
theorem TInv.start (h:Inv D0 ep pg0 tb old fe0 fr0 lf0 tc):TInv D0 pg0 tb old fr0 ⟨D0,fe0,fr0,lf0,pg0⟩ (fun _=>false) (cntN tc 64):=
 ⟨⟨rfl,rfl,rfl,rfl,rfl⟩,h.byt,h.lens.1,rfl,fun _ _=>rfl,(fun _ _ e=>by cases e),fun _ e=> .inl e,fun _ e=>e,fun s e=>⟨(h.frr s e).1,(h.frr s e).2.1,(h.frr s e).2.2.1,(h.frr s e).2.2.2.1⟩,h.jP,h.acct,
  ⟨h.lf.1,fun s=>by rw[h.lf.2 s];simp⟩,fun _ _=>rfl,h.room⟩
theorem setB_at (f:Nat→Bool) (k:Nat) (v:Bool) (j:Nat):setB f k v j=if j=k then v else f j:=rfl
theorem TInv.lfstep (h0:Inv D0 ep pg0 tb old fe0 fr0 lf0 tc) (h:TInv D0 pg0 tb old fr0 S dn (rem+1)) (hk:dn k=false) (hs:pg0[k]? =some s) :
  (if s≤1 then S.lf else S.lf++[s]).Nodup∧∀q,q∈(if s≤1 then S.lf else S.lf++[s])↔(2≤q∧∃i:Nat,old[i]? =some q∧tb[i]? ≠some q)∨(q≠0∧∃m:Nat,setB dn k true m=true∧pg0[m]? =some q):=by
 have hr:s≠0→2≤s:=fun e=>(h0.rP k s hs e).1
 have hsn:s≠0→s∉S.lf:=fun e hm=>by
  rcases(h.lf.2 s).1 hm with ⟨h2,i,hi, -⟩ | ⟨-,m,hm1,hm2⟩
  ·have:=h0.dis k i s hs hi;omega
  ·have:=h0.jP k m s hs hm2 e
   subst this;rw[hk] at hm1
   cases hm1
 have key:∀q,(q≠0∧∃m:Nat,setB dn k true m=true∧pg0[m]? =some q)↔(q≠0∧∃m:Nat,dn m=true∧pg0[m]? =some q)∨(q≠0∧q=s):=fun q=>by
  constructor
  ·rintro⟨e,m,h1,h2⟩
   rw[setB_at] at h1;by_cases e2:m=k
   ·subst e2;rw[hs] at h2;injection h2 with h2;exact .inr ⟨e,h2.symm⟩
   ·rw[if_neg e2] at h1;exact .inl ⟨e,m,h1,h2⟩
  ·rintro(⟨e,m,h1,h2⟩ | ⟨e,rfl⟩)
   ·refine⟨e,m,?_,h2⟩
    rw[setB_at];split
    ·rfl
    ·exact h1
   ·exact⟨e,k,by rw[setB_at,if_pos rfl],hs⟩
 by_cases h1:s≤1
 ·have h00:s=0:=by
   by_cases e:s=0
   ·exact e
   ·have:=hr e;omega
  rw[if_pos h1];refine⟨h.lf.1,fun q=>?_⟩;rw[h.lf.2 q,key q];constructor
  ·rintro(e | e)
   ·exact .inl e
   ·exact .inr (.inl e)
  ·rintro(e | e | ⟨e1,e2⟩)
   ·exact .inl e
   ·exact .inr e
   ·omega
 ·rw[if_neg h1]
  refine⟨List.nodup_append.2 ⟨h.lf.1,by simp,fun a ha b hb e=>?_⟩,fun q=>?_⟩
  ·simp only[List.mem_singleton] at hb;subst hb;subst e;exact hsn (by omega) ha
  ·rw[List.mem_append,List.mem_singleton,h.lf.2 q,key q]
   constructor
   ·rintro((e | e) | e)
    ·exact .inl e
    ·exact .inr (.inl e)
    ·exact .inr (.inr ⟨by omega,e⟩)
   ·rintro(e | e | ⟨-,e⟩)
    ·exact .inl (.inl e)
    ·exact .inl (.inr e)
    ·exact .inr e
theorem TInv.skip (h0:Inv D0 ep pg0 tb old fe0 fr0 lf0 tc) (h:TInv D0 pg0 tb old fr0 S dn (rem+1)) (hk:dn k=false) (hs:pg0[k]? =some s) (hb:someB tb (D0.sz / 2) k (D0.sz / 2)=false) :
  TInv D0 pg0 tb old fr0 (S.left k s) (setB dn k true) rem:=by
 have hkl:k< S.pg.length:=by rw[h.pgl];exact(List.getElem?_eq_some_iff.1 hs).1
 have hpg:S.pg[k]? =some s:=by rw[h.keep k hk];exact hs
 refine⟨h.n,h.byt,h.fel,by simp[TbS.left,h.pgl],fun m hm=>?_,fun m q hm hq=>?_,fun q hq=>?_,h.frk,h.frn,fun a b q ha hb2 hq=>?_,h.acct,h.lfstep h0 hk hs,h.rd,by have:=h.room;show rem≤cnt S.fe;omega⟩
 ·rw[setB_at] at hm
  have hmk:m≠k:=fun e=>by rw[if_pos e] at hm;cases hm
  rw[if_neg hmk] at hm;simp only[TbS.left];rw[set_at hkl,if_neg hmk];exact h.keep m hm
 ·simp only[TbS.left] at hq ⊢
  rw[set_at hkl] at hq;rw[setB_at] at hm;by_cases e:m=k
  ·subst e
   rw[if_pos rfl] at hq;injection hq with hq;exact .inl ⟨hq.symm,hb⟩
  ·rw[if_neg e] at hm hq
   exact h.new m q hm hq
 ·rcases h.frr q hq with e | ⟨m,h1,h2⟩
  ·exact .inl e
  ·refine .inr ⟨m,?_,?_⟩
   ·rw[setB_at];split;rfl;exact h1
   ·simp only[TbS.left]
    rw[set_at hkl,if_neg (fun e=>by subst e;rw[hk] at h1;cases h1)];exact h2
 ·simp only[TbS.left] at ha hb2
  rw[set_at hkl] at ha hb2;split at ha
  ·injection ha with ha;omega
  ·split at hb2
   ·injection hb2 with hb2;omega
   ·exact h.jP a b q ha hb2 hq
theorem TInv.free (h:TInv D0 pg0 tb old fr0 S dn rem) (hj:S.fe.getD j false=true):2≤j∧j< D0.n∧(∀k:Nat,pg0[k]? ≠some j)∧(∀i:Nat,old[i]? ≠some j)∧S.fr j=false:=by
 have hjn:j< D0.n:=by
  by_cases e:j< S.fe.length
  ·have:=h.fel;omega
  ·rw[List.getD_eq_getElem?_getD,List.getElem?_eq_none (by omega)] at hj;simp at hj
 have hn:¬ (j< 2∨(∃k:Nat,pg0[k]? =some j)∨(∃i:Nat,old[i]? =some j)∨S.fr j=true):=fun e=>by
  have:=(h.acct j hjn).2 e;rw[hj] at this
  cases this
 simp only[not_or,not_exists] at hn;exact⟨by omega,hjn,hn.2.1,hn.2.2.1,by cases e:S.fr j with | false=>rfl | true=>exact absurd e hn.2.2.2⟩
theorem TInv.lay (h0:Inv D0 ep pg0 tb old fe0 fr0 lf0 tc) (h:TInv D0 pg0 tb old fr0 S dn (rem+1)) (hk:dn k=false) (hs:pg0[k]? =some s) (hb:someB tb (D0.sz / 2) k (D0.sz / 2)=true) (hj:S.fe.getD j false=true) :
  TInv D0 pg0 tb old fr0 (S.lay k s j (tabL tb (D0.sz / 2) D0.sz k)) (setB dn k true) rem:=by
 have hkl:k< S.pg.length:=by rw[h.pgl];exact(List.getElem?_eq_some_iff.1 hs).1
 obtain⟨j2,jn,jp,jo,jf⟩:=h.free hj;have hjl:j< S.fe.length:=by rw[h.fel];exact jn
 have hf0:fr0 j=false:=by cases e:fr0 j with | false=>rfl | true=>rw[h.frk j e] at jf;cases jf
 have hjpg:∀m:Nat,S.pg[m]? ≠some j:=fun m hm=>by
  cases hd:dn m with
  | false=>rw[h.keep m hd] at hm;exact jp m hm
  | true=>
   rcases h.new m j hd hm with ⟨e, -⟩ | ⟨-,e, -⟩
   ·omega
   ·rw[jf] at e;cases e
 refine⟨h.n,fun q hq x hx=>?_,by simp[TbS.lay,trn,h.fel],by simp[TbS.lay,h.pgl],fun m hm=>?_,fun m q hm hq=>?_,fun q hq=>?_,fun q hq=>?_,fun q hq=>?_,fun a b q ha hb2 hq=>?_,fun q hq=>?_,h.lfstep h0 hk hs,fun q hq=>?_,?_⟩
 ·simp only[TbS.lay] at hx
  rw[Dk.wr_rd] at hx;split at hx
  ·exact tabL_byte _ _ _ _ x hx
  ·exact h.byt q hq x hx
 ·rw[setB_at] at hm
  have hmk:m≠k:=fun e=>by rw[if_pos e] at hm;cases hm
  rw[if_neg hmk] at hm;simp only[TbS.lay];rw[set_at hkl,if_neg hmk];exact h.keep m hm
 ·simp only[TbS.lay] at hq ⊢
  rw[set_at hkl] at hq;rw[setB_at] at hm;by_cases e:m=k
  ·subst e
   rw[if_pos rfl] at hq;injection hq with hq;subst hq;exact .inr ⟨j2,by rw[setB_at,if_pos rfl],hf0,by rw[Dk.wr_rd,if_pos rfl],hb⟩
  ·rw[if_neg e] at hm hq
   rcases h.new m q hm hq with e1 | ⟨e1,e2,e3,e4,e5⟩
   ·exact .inl e1
   ·have hqj:q≠j:=by rintro rfl;rw[jf] at e2;cases e2
    exact .inr ⟨e1,by rw[setB_at,if_neg hqj];exact e2,e3,by rw[Dk.wr_rd,if_neg hqj];exact e4,e5⟩
 ·simp only[TbS.lay] at hq ⊢
  rw[setB_at] at hq;by_cases e:q=j
  ·subst e
   exact .inr ⟨k,by rw[setB_at,if_pos rfl],by rw[set_at hkl,if_pos rfl]⟩
  ·rw[if_neg e] at hq
   rcases h.frr q hq with e1 | ⟨m,h1,h2⟩
   ·exact .inl e1
   ·refine .inr ⟨m,by rw[setB_at];split;rfl;exact h1,?_⟩
    rw[set_at hkl,if_neg (fun e=>by subst e;rw[hk] at h1;cases h1)];exact h2
 ·simp only[TbS.lay]
  rw[setB_at];split
  ·rfl
  ·exact h.frk q hq
 ·simp only[TbS.lay] at hq
  rw[setB_at] at hq;by_cases e:q=j
  ·subst e;exact⟨j2,jn,jp,jo⟩
  ·rw[if_neg e] at hq;exact h.frn q hq
 ·simp only[TbS.lay] at ha hb2
  rw[set_at hkl] at ha hb2;split at ha
  ·split at hb2
   ·omega
   ·injection ha with ha;subst ha;exact absurd hb2 (hjpg b)
  ·split at hb2
   ·injection hb2 with hb2;subst hb2;exact absurd ha (hjpg a)
   ·exact h.jP a b q ha hb2 hq
 ·simp only[TbS.lay]
  rw[trn_getD hjl,setB_at];by_cases e:q=j
  ·subst e;rw[if_pos rfl,hj];simp
  ·simp only[e,if_false]
   exact h.acct q hq
 ·simp only[TbS.lay] at hq ⊢
  have hqj:q≠j:=by
   rintro rfl;have:=hq (by rw[setB_at,if_pos rfl]);rw[hf0] at this
   cases this
  rw[Dk.wr_rd,if_neg hqj];exact h.rd q fun e=>hq (by rw[setB_at,if_neg hqj];exact e)
 ·have h1:=cnt_trn_no hj
  have h2:=h.room;show rem≤cnt (trn S.fe j);omega
end
end
section
open Go.RowKit Go.Maps
open Go.ChangeMaps (setBlock)
structure OutR (b0:Nat) (W:World) (F:Nat→Prop) (e:TypeId) (v:Value) (n:Nat) (xs:List Value):Prop where
 own:W.ownsRow b0 e 1 v n xs
 out:∀g,v.ownBlock=some g→¬F g
section
variable {b0 n:Nat} {W W':World} {F F' G:Nat→Prop} {e:TypeId} {v:Value} {xs:List Value}
theorem OutR.rch (h:OutR b0 W F e v n xs) (k:Rch F F' W W'):OutR b0 W' F' e v n xs:=
 ⟨own_chg h.own k.chg h.out,fun g hg q=>(k.new g q).elim (h.out g hg) fun q=>by have:=(h.own.lt g hg).2;omega⟩
theorem OutR.grew (h:OutR b0 W F e v n xs) (hg:Grew W W'):OutR b0 W' F e v n xs:=⟨own_grew h.own hg,h.out⟩
theorem OutR.chg (h:OutR b0 W F e v n xs) (hc:Chg G W W') (hG:∀g,v.ownBlock=some g→¬G g):OutR b0 W' F e v n xs:=⟨own_chg h.own hc hG,h.out⟩
end
theorem ChIn.past {w w':World} {L:Nat→Nat} {o:Cg} {c M1 s1 M2 s2:Nat} {vw vl:Value} {G:Nat→Prop} (h:ChIn w L o c vw M1 s1 vl M2 s2) (hc:Chg G w w') (hG:∀j,L j≠0→¬G j):ChIn w' L o c vw M1 s1 vl M2 s2:=
 ⟨h.blk.chg hc (hG _ (by rw[h.lc];omega)),h.lc,own_chg h.was hc (fun j hj=>hG j (by rw[h.lw j hj];omega)),h.lw,h.fr.chg hc (hG _ (by rw[h.lf];omega)),h.lf,own_chg h.lft hc (fun j hj=>hG j (by rw[h.ll j hj];omega)),h.ll,h.tch.chg hc (hG _ (by rw[h.lt];omega)),h.lt,h.n1,h.n2⟩
def Gp.at_ (X:Gp) (o:Cg) (S:TbS):Gp:= { X with D:=S.D,free:=S.fe,op:=some { o with fresh:=S.fr,left:=S.lf } }
theorem mem_keysL {f:Nat→Bool} {N k:Nat}:k∈keysL f N↔k< N∧f k=true:=by
 unfold keysL;rw[List.mem_filter,List.mem_range]
theorem keysL_len (f:Nat→Bool) (N:Nat):(keysL f N).length=cntN f N:=by
 unfold keysL;rw[cntN_countP,List.countP_eq_length_filter]
theorem keysL_nd (f:Nat→Bool) (N:Nat):(keysL f N).Nodup:=List.nodup_range.filter _
def dnOf (ks:List Nat) (i:Nat):Nat→Bool:=fun k=>decide (k∈ks.take i)
theorem dnOf_zero (ks:List Nat):dnOf ks 0=fun _=>false:=by funext k;simp[dnOf]
theorem dnOf_step {ks:List Nat} {i k:Nat} (h:ks[i]? =some k):dnOf ks (i+1)=setB (dnOf ks i) k true:=by
 funext m
 rw[setB_at];unfold dnOf;rw[List.take_add_one,h];by_cases e:m=k
 ·subst e;simp
 ·simp[e]
theorem dnOf_new {ks:List Nat} {i k:Nat} (hn:ks.Nodup) (h:ks[i]? =some k):dnOf ks i k=false:=by
 unfold dnOf;refine decide_eq_false fun hm=>?_;obtain⟨q,hq,e⟩:=List.mem_iff_getElem.1 hm;rw[List.getElem_take] at e;rw[List.length_take] at hq;have h9:ks[q]? =ks[i]? :=by rw[List.getElem?_eq_getElem (show q< ks.length by omega),h,e]
 have:=(List.getElem?_inj (by omega) hn).1 h9;omega
theorem TInv.lfle {D0:Dk} {ep:Nat} {pg0 tb old lf0:List Nat} {fe0:List Bool} {fr0 tc dn:Nat→Bool} {S:TbS} {rem:Nat} (h0:Inv D0 ep pg0 tb old fe0 fr0 lf0 tc) (h:TInv D0 pg0 tb old fr0 S dn rem):S.lf.length≤4096:=by
 have h1:=List.Nodup.length_le_of_subset h.lf.1 (l₂:=List.range D0.n) fun s hs=>List.mem_range.2 (by
  rcases(h.lf.2 s).1 hs with ⟨-,i,hi, -⟩ | ⟨e,k, -,hk⟩
  ·exact h0.rO i s hi
  ·exact(h0.rP k s hk e).2)
 have:=h0.sz;rw[List.length_range] at h1;omega
theorem tabs_lt (row need sz:Nat):∀f k0,(∀j,j< k0→j*row< need)→∀j,j< tabs row need sz f k0→j*row< need
 | 0,k0,h,j,hj=>h j hj
 | f+1,k0,h,j,hj=>by
  unfold tabs at hj;split at hj
  ·rename_i hc
   refine tabs_lt row need sz f (k0+1) (fun q hq=>?_) j hj;by_cases e:q=k0
   ·subst e;exact hc.2
   ·exact h q (by omega)
  ·exact h j hj
theorem cap_lt {n sz k:Nat} (hz:64≤sz) (hk:k< tabN n sz):k*(sz / 2)< capN n sz:=by
 have h1:=tabs_lt (sz / 2) (n - 2) sz 64 0 (fun j hj=>by omega) k hk;have h2:(k+1)*(sz / 2)≤tabN n sz*(sz / 2):=Nat.mul_le_mul_right _ hk;rw[Nat.add_mul,Nat.one_mul] at h2;unfold capN;split<;>omega
structure TabsJ (w wr:World) (p:Nat) (F F':Nat→Prop) (X:Gp) (o:Cg) (S:TbS) (ks:List Nat) (vp vk:Value):Prop where
 gs:GS wr p F' (X.at_ o S)
 rch:Rch F F' w wr
 row:OutR w.heap.size wr F' 3 vp X.pages.length (nv S.pg)
 keys:OutR w.heap.size wr F' 3 vk ks.length (nv ks)
 ne:∀g,vp.ownBlock=some g→vk.ownBlock≠some g
def TabsO (w w':World) (p:Nat) (F:Nat→Prop) (X:Gp) (o:Cg) (e:Ending):Prop:=
 ∃S F' v,e= .returned (.tuple #[v,.int .i64 0])∧TInv X.D X.pages X.table o.was o.fresh S (dnOf (keysL o.touched 64) (keysL o.touched 64).length) 0∧GS w' p F' (X.at_ o S)∧Rch F F' w w'∧OutR w.heap.size w' F' 3 v X.pages.length (nv S.pg)
section
variable {w wr w':World} {p:Nat} {F F' F2:Nat→Prop} {X:Gp} {o:Cg} {S S':TbS} {ks:List Nat} {vp vk:Value}
theorem TabsJ.step (h:TabsJ w wr p F F' X o S ks vp vk) (hg:GS w' p F2 (X.at_ o S')) (hr:Rch F' F2 wr w') (hp:S'.pg=S.pg):TabsJ w w' p F F2 X o S' ks vp vk:=
 ⟨hg,h.rch.trans hr,by rw[hp];exact h.row.rch hr,h.keys.rch hr,h.ne⟩
theorem TabsJ.grew (h:TabsJ w wr p F F' X o S ks vp vk) (hg:Grew wr w'):TabsJ w w' p F F' X o S ks vp vk:=
 ⟨h.gs.grew hg,h.rch.trans (Rch.grew hg),h.row.grew hg,h.keys.grew hg,h.ne⟩
theorem TabsJ.put {g c:Nat} (h:TabsJ w wr p F F' X o S ks (.slice (some ⟨g,0,none⟩) X.pages.length c) vk) (h0:0< w.heap.size) (k j:Nat) :
  TabsJ w (wr.setCell ⟨g,k,none⟩ (.int .i64 j)) p F F' X o { S with pg:=S.pg.set k j } ks (.slice (some ⟨g,0,none⟩) X.pages.length c) vk:=by
 have hc:Chg (fun q=>q=g) wr (wr.setCell ⟨g,k,none⟩ (.int .i64 j)):=(Chg.refl (fun q=>q=g) wr).setCell (p:=⟨g,k,none⟩) (fun _=>rfl) _;have hgF:¬F' g:=h.row.out g rfl;have hgw:=(h.row.own.lt g rfl).1
 refine⟨h.gs.chg hc (fun q hq e=>hgF (e▸hq)) (by omega),⟨Chg.trans h.rch.chg hc fun i hi e=>by omega,fun q hq=>h.rch.new q hq⟩,⟨?_,fun q hq=>h.row.out q hq⟩,h.keys.chg hc fun q hq e=>h.ne q (by rw[e];rfl) hq,fun q hq=>h.ne q hq⟩;have:=(h.row.own.stored k (.int .i64 j)).1;have e:nv (S.pg.set k j)=(nv S.pg).set k (.int .i64 (j:Int)):=by simp[nv,List.map_set]
 show(wr.setCell ⟨g,k,none⟩ (.int .i64 (j:Int))).ownsRow _ _ _ _ _ (nv (S.pg.set k j));rw[e];exact this
end
theorem gtables_ok (p:Nat) (F:Nat→Prop) (X:Gp) (o:Cg) (w:World) (h:GS w p F X) (hok:X.Ok) (hx:X.op=some o) (hne:0< (keysL o.touched 64).length) :
  Calls prog 64 #[.pointer (some ⟨p,0,none⟩)] w fun e w'=>TabsO w w' p F X o e:=by
 have hv:=hok.inv;simp only[Gp.old,Gp.fr,Gp.lf,Gp.tc,hx] at hv;have hup:=hok.up;have hrow:=hok.row;have hsz:=hv.sz;have HGS:=yH h;have hpos:=tab_pos h.tab;obtain⟨L,d,b,A,ca,vp,vt,vo,h,hF⟩:=h;have ho:=h.opn;rw[hx] at ho;obtain⟨c,vw,M1,s1,vl,M2,s2,rfl,hi2⟩:=ho;obtain⟨Ap,cp,rfl, -⟩:=own_shape h.pgs
 have hcl:=clone_ints X.pages Ap cp w h.pgs (by have:=hv.pg64;omega);obtain⟨c0,f0,s0⟩:=h.blk.facts;have hn64:∀k,o.touched k=true→k< 64:=hi2.n2.2;have hopt:X.op=some { o with fresh:=o.fresh,left:=o.left }:=hx;have H:=yH (yA5 h hi2 hF hcl (yA5 hv hup hrow hsz (yA hx hne)));clear h hi2 hF hcl hv hup hrow hsz hx hok hopt;go_enter func64,ntmps64
 go_wp2_with fail
 refine H.out.2.2.2.1.mono ?_;rintro e w1 ⟨A1,c1,rfl,ho1,hg1⟩;have hB1:=H.out.1.blk.grew hg1;have hB2:=H.out.2.1.blk.grew hg1;obtain⟨d0,e0,s0'⟩:=hB1.facts;obtain⟨d1,e1,s1'⟩:=hB2.facts;have H1:=yH (yA ho1 hg1);clear ho1 hg1 hB1 hB2 c0 f0 s0;obtain⟨W2,hW2⟩:∃W,w1.alloc (.cells #[.map (some M2)] 103)=W:=⟨_,rfl⟩
 go_wp2_with (go_at_call 102;(refine(mkeys_any M2 _ W2 hW2).mono ?_);rintro e w2 ⟨rfl,rfl⟩)
 have hg2:Grew w1 W2:=hW2▸(Chg.refl _ _).alloc _;have hbb:Blk W2 w1.heap.size 103 #[.map (some M2)]:=hW2▸Blk.new _ _ _;have hks:=ksorted_any w1.heap.size M2 s2 64 o.touched W2 hbb (H.out.2.1.tch.grew (Grew.trans H1.out.2 hg2)) hn64 (by omega) (yP8 H.out).2;have HK:=yH (yA hks hg2);clear hks hg2 hbb hW2 d0 e0 s0' d1 e1 s1';refine HK.out.1.mono ?_;rintro e w3 ⟨A3,c3,rfl,ho3,hg3⟩
 obtain⟨ks,hks⟩:∃ks,keysL o.touched 64=ks:=⟨_,rfl⟩;have hGw3:Grew w w3:=Grew.trans H1.out.2 (Grew.trans HK.out.2 hg3)
 have hAt:X.at_ o ⟨X.D,X.free,o.fresh,o.left,X.pages⟩=X:=by
  unfold Gp.at_;rw[show({ o with fresh:=o.fresh,left:=o.left }:Cg)=o from rfl,← (yP8 H.out).1]
 rw[hks] at ho3
 have hJ0:TabsJ w w3 p F F X o ⟨X.D,X.free,o.fresh,o.left,X.pages⟩ ks (.slice A1 X.pages.length c1) (.slice A3 ks.length c3):=by
  have hl1:=H1.out.1.lt;have hl3:=ho3.lt;have hz2:=H1.out.2.size;have hz3:=HK.out.2.size;refine⟨by rw[hAt];exact HGS.out.grew hGw3,Rch.grew hGw3,⟨own_grew H1.out.1 (Grew.trans HK.out.2 hg3),fun g hg e=>?_⟩,⟨own_base ho3 (by omega),fun g hg e=>?_⟩,fun g hg1 hg3'=>?_⟩
  ·have h8:=(hl1 g hg).1;have h9:=HGS.out.lt g e;omega
  ·have h8:=(hl3 g hg).1;have h9:=HGS.out.lt g e;omega
  ·have h8:=(hl1 g hg1).2;have h9:=(hl3 g hg3').1;omega
 have hT0:=TInv.start (yP4 H.out).1;rw[←keysL_len,hks,←dnOf_zero ks] at hT0;have hrm:ks.length - 0=ks.length:=rfl;have HJ0:=yH (yA hJ0 hT0);have HKs:=yH hks;have hkl:ks.length≤64:=by rw[←hks,keysL_len];exact cntN_le _ _
 simp only[hks];clear ho3 hg3 hGw3 hAt hJ0 hT0 hks hrm hne;obtain⟨row,hrw⟩:∃r,X.row=r:=⟨_,rfl⟩;have HRw:=yH hrw;go_wp2_with fail
 go_loopg [27] ks.length (fun q v wr=>∃ (i:Nat) (S:TbS) (F':Nat→Prop),q=ks.length - i∧i≤ks.length∧v= .int .i64 i∧TabsJ w wr p F F' X o S ks (.slice A1 X.pages.length c1) (.slice A3 ks.length c3)∧TInv X.D X.pages X.table o.was o.fresh S (dnOf ks i) (ks.length - i))
 case atStart=>exact⟨0,⟨X.D,X.free,o.fresh,o.left,X.pages⟩,F,rfl,Nat.zero_le _,rfl,HJ0.out.1,HJ0.out.2⟩
 case round=>
  obtain⟨i,S,F',rfl,hi,rfl,hJ,hT⟩:=hrel;have HJ:=yH (yA hJ hT);clear hJ hT;by_cases hlt:i< ks.length
  ·obtain⟨k,hk⟩:∃k,ks[i]? =some k:=⟨_,List.getElem?_eq_getElem hlt⟩
   have hkm:k∈keysL o.touched 64:=by rw[HKs.out];exact List.mem_of_getElem? hk
   obtain⟨hk64,hkt⟩:=mem_keysL.1 hkm;have hkp:k< X.pages.length:=(yP4 H.out).1.tc6 k hkt;have hkS:k< S.pg.length:=by rw[HJ.out.2.pgl];exact hkp
   have hdn:dnOf ks i k=false:=dnOf_new (HKs.out▸keysL_nd _ _) hk;obtain⟨s,hs⟩:∃s,X.pages[k]? =some s:=⟨_,List.getElem?_eq_getElem hkp⟩;have hsS:S.pg[k]? =some s:=by rw[HJ.out.2.keep k hdn];exact hs
   obtain⟨gq,rfl,hgq⟩:=own_block HJ.out.1.row.own (by omega);obtain⟨g3,rfl,hg3⟩:=own_block HJ.out.1.keys.own (by omega)
   have ck:wr.cell? ⟨g3,i,none⟩=some (.int .i64 k):=by
    have:=HJ.out.1.keys.own.cells (g:=g3) rfl i (.int .i64 k) (by simp[nv,hk]);rwa[Addr.add_lit,Nat.zero_add] at this
   have cs:wr.cell? ⟨gq,k,none⟩=some (.int .i64 s):=by
    have:=HJ.out.1.row.own.cells (g:=gq) rfl k (.int .i64 s) (by simp[nv,hsS]);rwa[Addr.add_lit,Nat.zero_add] at this
   have hfs:S.fr s=false:=by
    cases e:S.fr s with
    | false=>rfl
    | true=>exact absurd hs ((HJ.out.2.frn s e).2.2.1 k)
   have hsn:s≠0→s< X.D.n:=fun e=>((yP4 H.out).1.rP k s hs e).2;have hfl:S.fe.length≤4096:=by have:=HJ.out.2.fel;have:=(yP6 H.out).2.1;omega
   have hlv:=gleave_any p s F' (X.at_ o S) { o with fresh:=S.fr,left:=S.lf } wr HJ.out.1.gs rfl hfl (fun h2=>⟨by have h8:=HJ.out.2.fel;have h9:=hsn (by omega);show s< S.fe.length;omega,fun e=>by rw[show({ o with fresh:=S.fr,left:=S.lf }:Cg).fresh s=S.fr s from rfl,hfs] at e;cases e⟩) (by have:=TInv.lfle (yP4 H.out).1 HJ.out.2;show S.lf.length≤100000;omega)
   have hle:(X.at_ o S).leave { o with fresh:=S.fr,left:=S.lf } s=X.at_ o { S with lf:=if s≤1 then S.lf else S.lf++[s] }:=by
    unfold Gp.leave Gp.left Gp.at_;by_cases h1:s≤1
    ·rw[if_pos h1,if_pos h1]
    ·rw[if_neg h1,if_neg h1]
     simp only[hfs];rfl
   rw[hle] at hlv;obtain⟨lf',hlf⟩:∃lf',(if s≤1 then S.lf else S.lf++[s])=lf':=⟨_,rfl⟩;rw[hlf] at hlv;have HLf:=yH hlf;have HLv:=yH (yA5 hlv hk hdn hs (yA hfs hkt));clear hlv hle hlf hk hkm hkt hdn hs hsS hfs hsn;go_wp2_with fail
   refine HLv.out.1.mono ?_;rintro e w4 ⟨rfl,F4,hg4,hc4,hn4⟩;have hJ4:=HJ.out.1.step (S':= { S with lf:=lf' }) hg4 ⟨hc4,hn4⟩ rfl;have hJ5:=hJ4.put hpos k 0;have H4:=yH (yA hJ4 hJ5)
   obtain⟨u0,hu0⟩:∃u,w4.cell? ⟨gq,k,none⟩=some u:=by
    rw[hJ4.row.own.cellAt k (by omega)];exact⟨_,List.getElem?_eq_getElem (by rw[nv_len];exact hkS)⟩
   have fr0:=hJ4.row.own.frozenAt k;have sgq:=(hJ4.row.own.lt gq rfl).2;clear hg4 hc4 hn4 hJ4 hJ5 cs ck;go_wp2_with fail
   have hat5:X.at_ o { S with lf:=lf',pg:=S.pg.set k 0 }=X.at_ o { S with lf:=lf' }:=rfl
   have hsec:=gsector_any p k F4 (X.at_ o { S with lf:=lf',pg:=S.pg.set k 0 }) _ H4.out.2.gs (by show X.row=S.D.sz / 2;rw[HJ.out.2.n.2.1];exact(yP6 H.out).1) hk64 (by
    show k*X.row< X.table.length;rw[(yP6 H.out).1,(yP4 H.out).1.lens.2.2.1];exact cap_lt (yP6 H.out).2.1.2.2.1 (by rw[← (yP4 H.out).1.lens.2.1];exact hkp)) (yP4 H.out).1.tb4.1 (fun q hq=>by
    obtain⟨m,hm⟩:=List.mem_iff_getElem?.1 hq;by_cases e:q< 2
    ·omega
    ·have h9:=(yP6 H.out).2.1
     rcases(yP4 H.out).1.cur m q hm (by omega) with e1 | e1
     ·have:=((yP4 H.out).1.frr q e1).2.1;omega
     ·have:=(yP4 H.out).1.rO m q e1;omega)
   have hsb:someB X.table X.row k X.row=someB X.table (X.D.sz / 2) k (X.D.sz / 2):=by rw[(yP6 H.out).1]
   have htl:tabL X.table X.row S.D.sz k=tabL X.table (X.D.sz / 2) X.D.sz k:=by rw[(yP6 H.out).1,HJ.out.2.n.2.1]
   have hsec2:Calls prog 103 #[.pointer (some ⟨p,0,none⟩),.int .i64 k] (w4.setCell ⟨gq,k,none⟩ (.int .i64 ((0:Nat):Int))) fun e w'=>
     ∃A c,e= .returned (.tuple #[.slice A S.D.sz c,.bool (someB X.table X.row k X.row)])∧w'.ownsRow (w4.setCell ⟨gq,k,none⟩ (.int .i64 ((0:Nat):Int))).heap.size 5 1 (.slice A S.D.sz c) S.D.sz (bv (tabL X.table X.row S.D.sz k))∧Grew (w4.setCell ⟨gq,k,none⟩ (.int .i64 ((0:Nat):Int))) w':=hsec
   have HSe:=yH (yA3 hsec2 hsb htl);clear hsec hsec2 hsb htl hat5 hu0 fr0 sgq;refine HSe.out.1.mono ?_;rintro e w6 ⟨A6,c6,rfl,ho6,hg6⟩;have hJ6:=H4.out.2.grew hg6;have hT:=HJ.out.2;rw[show ks.length - i=(ks.length - (i+1))+1 by omega] at hT;obtain⟨sb,hsb⟩:∃sb,someB X.table X.row k X.row=sb:=⟨_,rfl⟩;have hsb2:=HSe.out.2.1;rw[hsb] at hsb2
   have H6:=yH (yA5 hJ6 hT ho6 hg6 hsb2);rw[hsb];clear hJ6 hT ho6 hg6 hsb hsb2
   cases sb with
   | false=>
    go_wp2_with fail
    go_roundg (ks.length - (i+1))
    case measure=>omega
    case rel=>exact⟨i+1,S.left k s,F4,rfl,by omega,by simp,by unfold TbS.left;rw[HLf.out];exact H6.out.1,by rw[dnOf_step HLv.out.2.1];exact TInv.skip (yP4 H.out).1 H6.out.2.1 HLv.out.2.2.1 HLv.out.2.2.2.1 (yP4 H6.out).symm⟩
   | true=>
    obtain⟨L6,d6,b6,A6p,ca6,vp6,vt6,vo6,hG6,hF6⟩:=H6.out.1.gs;obtain rfl:F4=fun j=>L6 j≠0:=funext fun j=>propext (hF6 j);have ho6:OpnIn w6 L6 vo6 (some { o with fresh:=S.fr,left:=lf' }):=hG6.opn;obtain⟨c',vw',M1',s1',vl',M2',s2',rfl,hi6⟩:=ho6;obtain⟨j,hj,hjl,hjt⟩:=take_there (fe:=S.fe) (by have:=H6.out.2.1.room;omega)
    obtain⟨j2,jn,jp,jo,jf⟩:=H6.out.2.1.free hjt;obtain⟨gb,rfl,hgb⟩:=own_block H6.out.2.2.1 (by have:=HJ.out.2.n.2.1;have:=(yP6 H.out).2.1;omega);have hgb4:=(H6.out.2.2.1.lt gb rfl).1
    have hbO:OutR w.heap.size w6 (fun j=>L6 j≠0) 5 (.slice (some ⟨gb,0,none⟩) S.D.sz c6) S.D.sz (bv (tabL X.table X.row S.D.sz k)):=by
     have hz5:=H4.out.2.rch.chg.size;refine⟨own_base H6.out.2.2.1 (by omega),fun q hq e=>?_⟩;simp[Value.ownBlock] at hq
     subst hq;have h8:gb< (w4.setCell ⟨gq,k,none⟩ (.int .i64 ((0:Nat):Int))).heap.size:=H4.out.2.gs.lt gb e;omega
    obtain⟨x0,y0,z0⟩:=hG6.blk.facts;have hptk:=ptake_some b6 j S.fe A6p ca6 w6 hG6.pol (by omega) hG6.tab hj;have H7:=yH (yA5 hG6 hi6 hbO hptk (yA4 hj hjt (yA4 j2 jn jp jo) jf))
    have hgqb:gq≠gb:=fun e=>by
     have h8:gq< (w4.setCell ⟨gq,k,none⟩ (.int .i64 ((0:Nat):Int))).heap.size:=by have:=(H4.out.2.row.own.lt gq rfl).2;exact this
     omega
    clear hG6 hi6 hbO hptk hj hjt jp jo jf hF6 hgb4;go_wp2_with fail
    refine H7.out.2.2.2.1.mono ?_;rintro e w7 ⟨rfl,h71,h72⟩;obtain⟨hG7,ht7⟩:=H7.out.1.pool h71 h72;have hr7:=(ht7.s (K:=fun m=>m=3) H7.out.1.lt rfl (by omega)).rch (by omega) (fun j=>Iff.rfl);have hJ7:=H6.out.1.step (S':= { S with fe:=trn S.fe j,lf:=lf',pg:=S.pg.set k 0 }) hG7.gs hr7 rfl;have hb7:=H7.out.2.2.1.rch hr7;have hi7:=H7.out.2.1.keep ht7 (by omega)
    have hJ8:=hJ7.put hpos k j;have hc8:Chg (fun q=>q=gq) w7 (w7.setCell ⟨gq,k,none⟩ (.int .i64 j)):=(Chg.refl (fun q=>q=gq) w7).setCell (p:=⟨gq,k,none⟩) (fun _=>rfl) _;have hgqF:∀q,L6 q≠0→q≠gq:=fun q hq e=>hJ7.row.out gq rfl (e▸hq);have hgw:=(hJ7.row.own.lt gq rfl).1;have hG8:=hG7.chg hc8 hgqF (by omega)
    have hi8:ChIn (w7.setCell ⟨gq,k,none⟩ (.int .i64 j)) L6 { o with fresh:=S.fr,left:=lf' } c' vw' M1' s1' vl' M2' s2':=hi7.past hc8 hgqF;have hb8:=hb7.chg hc8 (fun q hq e=>hgqb (by simp[Value.ownBlock] at hq;omega));obtain⟨v0,st,o1,o2,hr1,hr2,hG9,ht9⟩:=hG8.frput hi8 (by have:=(yP6 H.out).2.1;omega) (yP6 H7.out).2;simp only[goInt] at hr1 hr2
    have hr9:=(ht9.s (K:=fun m=>m=8) hG8.lt rfl (by omega)).rch (by omega) (fun j=>Iff.rfl);have hJ9:=hJ8.step (S':= { S with fe:=trn S.fe j,lf:=lf',pg:=(S.pg.set k 0).set k j,fr:=setB S.fr j true }) hG9.gs hr9 rfl;have hb9:=hb8.rch hr9
    obtain⟨u0,hu0⟩:∃u,w7.cell? ⟨gq,k,none⟩=some u:=by
     rw[hJ7.row.own.cellAt k (by omega)];exact⟨_,List.getElem?_eq_getElem (by rw[nv_len,List.length_set];exact hkS)⟩
    have fr0:=hJ7.row.own.frozenAt k;have sgq:=(hJ7.row.own.lt gq rfl).2;clear x0 y0 z0;obtain⟨x0,y0,z0⟩:=hG7.blk.facts;obtain⟨x1,y1,z1⟩:=hi7.blk.facts;have x9:=hG9.blk.cell 0;simp only[List.getElem?_toArray,List.getElem?_cons_zero] at x9;have H9:=yH (yA3 hG9 hJ9 hb9);clear hG7 ht7 hr7 hJ7 hb7 hi7 hJ8 hc8 hgqF hG8 hi8 hb8 hG9 ht9 hr9 hJ9 hb9 h71 h72;go_wp2_with fail
    obtain⟨W9,hW9⟩:∃W,setBlock (setBlock (w7.setCell ⟨gq,k,none⟩ (.int .i64 j)) M1' o1) M1' o2=W:=⟨_,rfl⟩;rw[hW9] at H9 ⊢;clear hr1 hr2 hu0 fr0 sgq x0 y0 z0 x1 y1 z1 x9 hW9
    have hdw:=dwrite_ok d6 j (tabL X.table X.row S.D.sz k) (some ⟨gb,0,none⟩) (by simp) c6 (fun q=>L6 q=2) S.D W9 H9.out.1.dsk (by rw[HJ.out.2.n.2.2.1];exact(yP4 H.out).2.1.2.1) (by rw[HJ.out.2.n.2.2.2.1];exact(yP4 H.out).2.1.2.2) (by omega) (by have:=HJ.out.2.n.1;omega)
     (tabL_len (by rw[HJ.out.2.n.2.1,(yP6 H.out).1];omega)) (by have:=Sl.of_own (own_base H9.out.2.2.own (Nat.zero_le _));rw[tabL_len (by rw[HJ.out.2.n.2.1,(yP6 H.out).1];omega)];exact this)
    rw[tabL_len (by rw[HJ.out.2.n.2.1,(yP6 H.out).1];omega)] at hdw;have HDw:=yH hdw;clear hdw;refine HDw.out.mono ?_;rintro e w10 ⟨rfl,h10⟩;obtain⟨L10,hG10,ht10⟩:=H9.out.1.disk h10;have hr10:=(ht10.s (K:=fun m=>m=2) H9.out.1.lt rfl (by omega)).rch (by omega) (fun j=>Iff.rfl)
    have hJ10:=H9.out.2.1.step (S':=S.lay k s j (tabL X.table X.row S.D.sz k)) (show GS w10 p (fun j=>L10 j≠0) (X.at_ o (S.lay k s j (tabL X.table X.row S.D.sz k))) from by
     have e1:X.at_ o (S.lay k s j (tabL X.table X.row S.D.sz k))= { X with D:=S.D.wr j (tabL X.table X.row S.D.sz k),free:=trn S.fe j,op:=some { o with fresh:=setB S.fr j true,left:=lf' } }:=by
      unfold Gp.at_ TbS.lay;rw[HLf.out]
     rw[e1];exact hG10.gs) hr10 (by unfold TbS.lay;simp)
    have hT10:=TInv.lay (yP4 H.out).1 H6.out.2.1 HLv.out.2.2.1 HLv.out.2.2.2.1 (yP4 H6.out).symm (yP4 H7.out).2.1;rw[←HSe.out.2.2] at hT10;have H10:=yH (yA hJ10 hT10);clear h10 hG10 ht10 hr10 hJ10 hT10;go_wp2_with fail
    go_roundg (ks.length - (i+1))
    case measure=>omega
    case rel=>exact⟨i+1,S.lay k s j (tabL X.table X.row S.D.sz k),_,rfl,by omega,by simp,H10.out.1,by rw[dnOf_step HLv.out.2.1];exact H10.out.2⟩
  ·obtain rfl:i=ks.length:=by omega
   go_wp2_with fail
   go_ret2
   refine⟨S,F',_,rfl,?_,HJ.out.1.gs,HJ.out.1.rch,HJ.out.1.row⟩;have:=HJ.out.2;rw[Nat.sub_self] at this;rw[HKs.out];exact this
end
section
open Go.RowKit Go.Maps
theorem grp_inj:∀ (m a b:Nat) (x y:List Int),a≤m→grp a++x=grp b++y→a=b∧x=y:=by
 intro m
 induction m with
 | zero=>
  intro a b x y ha h;obtain rfl:a=0:=by omega
  rw[grp_small (u:=0) (by omega)] at h;by_cases hb:b< 128
  ·rw[grp_small hb] at h
   simp only[List.cons_append,List.nil_append,List.cons.injEq] at h;exact⟨by omega,h.2⟩
  ·rw[grp_more (u:=b) (by omega)] at h
   simp only[List.cons_append,List.nil_append,List.cons.injEq] at h
   omega
 | succ m ih=>
  intro a b x y ha h;by_cases h1:a< 128
  ·rw[grp_small h1] at h
   by_cases hb:b< 128
   ·rw[grp_small hb] at h
    simp only[List.cons_append,List.nil_append,List.cons.injEq] at h;exact⟨by omega,h.2⟩
   ·rw[grp_more (u:=b) (by omega)] at h
    simp only[List.cons_append,List.nil_append,List.cons.injEq] at h;omega
  ·rw[grp_more (u:=a) (by omega)] at h
   by_cases hb:b< 128
   ·rw[grp_small hb] at h
    simp only[List.cons_append,List.nil_append,List.cons.injEq] at h;omega
   ·rw[grp_more (u:=b) (by omega)] at h
    simp only[List.cons_append,List.cons.injEq] at h;obtain⟨e1,e2⟩:=ih (a / 128) (b / 128) x y (by omega) h.2;exact⟨by omega,e2⟩
theorem grps_inj:∀ (l l':List Nat),l.length=l'.length→grps l=grps l'→l=l'
 | [],[],_,_=>rfl
 | [],b :: l',h,_=>by simp at h
 | a :: l,[],h,_=>by simp at h
 | a :: l,b :: l',h,e=>by
  unfold grps at e;rw[List.flatMap_cons,List.flatMap_cons] at e;obtain⟨e1,e2⟩:=grp_inj _ _ _ _ _ (Nat.le_refl _) e;obtain rfl:=grps_inj l l' (by simpa using h) e2;obtain rfl:a=b:=by omega
  rfl
theorem bodyL_inj {ep ep':Nat} {l l':List Nat} (h:bodyL ep l=bodyL ep' l'):ep=ep'∧l=l':=by
 unfold bodyL at h;rw[List.append_assoc,List.append_assoc] at h;obtain⟨e1,e2⟩:=grp_inj _ _ _ _ _ (Nat.le_refl _) h;obtain⟨e3,e4⟩:=grp_inj _ _ _ _ _ (Nat.le_refl _) e2;exact⟨by omega,grps_inj _ _ (by omega) e4⟩
theorem rootL_inj {ep ep' sz:Nat} {l l':List Nat} (hf:(bodyL ep l).length+14≤sz) (hz:sz≤4096) (h:rootL ep l sz=rootL ep' l' sz):ep=ep'∧l=l':=by
 refine bodyL_inj ?_;obtain⟨B,hB⟩:∃B,bodyL ep l=B:=⟨_,rfl⟩;obtain⟨B',hB'⟩:∃B,bodyL ep' l'=B:=⟨_,rfl⟩;unfold rootL at h;rw[hB,hB'] at h;rw[hB] at hf;rw[hB,hB'];have hl:=congrArg List.length h;have h8:∀e,(tail8 e).length=8:=fun e=>rfl;have h4:∀x,(lowB x).length=4:=fun x=>rfl
 have hfl:∀ (b:List Int) (m:Nat),(fitL b m).length=b.length+(m - 2 - b.length)+2:=fun b m=>by simp[fitL]
 simp only[sealL,List.length_append,h8,h4,hfl] at hl;have hs:(sealL B (sz - 12)).length=(sealL B' (sz - 12)).length:=by simp only[sealL,List.length_append,h4,hfl];omega
 obtain⟨h1, -⟩:=List.append_inj h hs;unfold sealL at h1;obtain⟨h2, -⟩:=List.append_inj h1 (by rw[hfl,hfl];omega);unfold fitL at h2;simp only[List.cons.injEq] at h2;obtain⟨e1,e2,e3⟩:=h2;have hle:B.length=B'.length:=by omega
 exact(List.append_inj e3 hle).1
section
variable {D0:Dk} {ep:Nat} {pg0 tb old lf0:List Nat} {fe0:List Bool} {fr0 tc dn:Nat→Bool} {S:TbS} {k s j rem:Nat}
theorem getD_some {tb:List Nat} {m s:Nat} (h:tb[m]? =some s):tb.getD m 0=s:=by rw[List.getD_eq_getElem?_getD,h];rfl
theorem Inv.same_tab (h0:Inv D0 ep pg0 tb old fe0 fr0 lf0 tc) {k i:Nat} (hk:tc k=false) (hi:i< D0.sz / 2):tb.getD (k*(D0.sz / 2)+i) 0=old.getD (k*(D0.sz / 2)+i) 0:=by
 have hr:=h0.row
 have e:(k*(D0.sz / 2)+i) / (D0.sz / 2)=k:=by
  rw[Nat.mul_comm,Nat.mul_add_div (by omega),Nat.div_eq_of_lt hi];rfl
 by_cases h:tb[k*(D0.sz / 2)+i]? =old[k*(D0.sz / 2)+i]?
 ·rw[List.getD_eq_getElem?_getD,List.getD_eq_getElem?_getD,h]
 ·have:=h0.tcd _ h
  rw[e,hk] at this
  cases this
def Dk.rooted (D:Dk) (ep:Nat) (pg:List Nat):Dk:=(D.flushed.wr ((ep % 2:Nat):Int) (rootL ep pg D.sz)).flushed
theorem Dk.rooted_rd (D:Dk) (ep:Nat) (pg:List Nat) (s:Nat):(D.rooted ep pg).rd (s:Int)=if s=ep % 2 then rootL ep pg D.sz else D.rd (s:Int):=by
 unfold Dk.rooted;rw[Dk.flushed_rd,Dk.wr_rd,Dk.flushed_rd]
theorem rootL_byte {ep sz:Nat} {l:List Nat}:∀x∈rootL ep l sz,0≤x∧x≤255:=by
 intro x hx;unfold rootL at hx;rcases List.mem_append.1 hx with e | e
 ·unfold sealL at e
  rcases List.mem_append.1 e with e | e
  ·exact fitL_byte (bodyL_byte _ _) x e
  ·exact lowB_byte (crc_lt (fitL_byte (bodyL_byte _ _))) x e
 ·simp only[tail8,List.mem_cons,List.not_mem_nil,or_false] at e
  rcases e with rfl | rfl | rfl | rfl | rfl | rfl | rfl | rfl<;>omega
theorem TInv.commit (h0:Inv D0 ep pg0 tb old fe0 fr0 lf0 tc) (h:TInv D0 pg0 tb old fr0 S tc rem) (he:ep< 1099511627776) (hf:fitsN pg0.length D0.sz=true) :
  Inv (S.D.rooted (ep+1) S.pg) (ep+1) S.pg tb tb (gvn S.fe fun s=>decide (s∈S.lf)) (fun _=>false) [] (fun _=>false):=by
 have hz:=h0.sz;have hn:=h.n
 have hlf2:∀s,s∈S.lf→2≤s:=fun s hs=>by
  rcases(h.lf.2 s).1 hs with ⟨e, -⟩ | ⟨e,k, -,hk⟩
  ·exact e
  ·exact(h0.rP k s hk e).1
 have hpg:∀ (k s:Nat),S.pg[k]? =some s→s≠0→2≤s∧s< D0.n∧(∀i:Nat,old[i]? ≠some s)∧fr0 s=false:=fun k s hk hs=>by
  cases hd:tc k with
  | false=>
   rw[h.keep k hd] at hk;have h1:=h0.rP k s hk hs;refine⟨h1.1,h1.2,fun i hi=>by have:=h0.dis k i s hk hi;omega,?_⟩
   cases e:fr0 s with
   | false=>rfl
   | true=>exact absurd hk ((h0.frr s e).2.2.1 k)
  | true=>
   rcases h.new k s hd hk with ⟨e, -⟩ | ⟨e1,e2,e3, -⟩
   ·exact absurd e hs
   ·have:=h.frn s e2;exact⟨e1,this.2.1,this.2.2.2,e3⟩
 have htb:∀ (i s:Nat),tb[i]? =some s→s< D0.n:=fun i s hi=>by
  by_cases e:s< 2
  ·omega
  ·rcases h0.cur i s hi (by omega) with e1 | e1
   ·exact(h0.frr s e1).2.1
   ·exact h0.rO i s e1
 have hs4:∀s∈S.pg,s< 4096:=fun s hs=>by
  obtain⟨k,hk⟩:=List.mem_iff_getElem?.1 hs;by_cases e:s=0
  ·omega
  ·have:=(hpg k s hk e).2.1;omega
 have hfit:(bodyL (ep+1) S.pg).length+14≤D0.sz:=body_fits (by rw[h.pgl];exact hf) (by omega) hs4
 have hrd:∀ (k s:Nat),S.pg[k]? =some s→s≠0→(S.D.rooted (ep+1) S.pg).rd (s:Int)=tabL tb (D0.sz / 2) D0.sz k∧∃i,i< D0.sz / 2∧tb.getD (k*(D0.sz / 2)+i) 0≠0:=fun k s hk hs=>by
  have h1:=hpg k s hk hs;rw[Dk.rooted_rd,if_neg (by omega)]
  cases hd:tc k with
  | false=>
   have hk0:=hk;rw[h.keep k hd] at hk0;have e1:S.D.rd (s:Int)=D0.rd (s:Int):=h.rd s fun e=>absurd hk0 ((h.frn s e).2.2.1 k);rw[e1,h0.dur.tabs k s hk0 hs,tabL_congr (fun i hi=>(h0.same_tab hd hi).symm)];obtain⟨i,hi,e⟩:=h0.dur.tab1 k s hk0 hs
   exact⟨rfl,i,hi,by rw[h0.same_tab hd hi];exact e⟩
  | true=>
   rcases h.new k s hd hk with ⟨e, -⟩ | ⟨e1,e2,e3,e4,e5⟩
   ·exact absurd e hs
   ·refine⟨e4,?_⟩
    unfold someB at e5;simp only[List.any_eq_true,List.mem_range,bne_iff_ne] at e5;exact e5
 refine⟨by rw[show(S.D.rooted (ep+1) S.pg).n=S.D.n from rfl,show(S.D.rooted (ep+1) S.pg).sz=S.D.sz from rfl,hn.1,hn.2.1];exact hz,?_,?_,?_,fun i j s hi hj h2=>h0.jT i j s hi hj h2,h.jP,fun k i s hk hi=>?_,fun s hs=>?_,fun s hs=>(by cases hs),fun i s hi _=> .inr hi,fun i j s hi hj h2=>h0.jT i j s hi hj h2,⟨List.nodup_nil,fun s=>⟨fun e=>(by cases e),fun e=>by obtain⟨-,i,h1,h2⟩:=e;exact absurd h1 h2⟩⟩,fun i hi=>absurd rfl hi,fun k hk=>(by cases hk),?_,fun s _ _=>rfl,⟨fun _=>?_,fun i e' pg' hi hg hp hr=>?_,fun e=>(by omega),fun k hk i hi=>?_,fun k s hk hs=>?_,fun k s hk hs=>?_⟩,fun s hs x hx=>?_,by omega,fun s hs x hx=>?_⟩
 ·refine⟨by rw[gvn_len,h.fel];exact hn.1.symm,?_,?_,?_⟩
  ·show S.pg.length=tabN S.D.n S.D.sz
   rw[hn.1,hn.2.1,h.pgl];exact h0.lens.2.1
  ·show tb.length=capN S.D.n S.D.sz
   rw[hn.1,hn.2.1];exact h0.lens.2.2.1
  ·show tb.length=capN S.D.n S.D.sz
   rw[hn.1,hn.2.1];exact h0.lens.2.2.1
 ·intro i s hi
  show s< S.D.n;rw[hn.1];exact htb i s hi
 ·intro k s hk hs
  show 2≤s∧s< S.D.n;rw[hn.1];have:=hpg k s hk hs;exact⟨this.1,this.2.1⟩
 ·by_cases e:s=0
  ·omega
  ·have h1:=hpg k s hk e
   by_cases e2:s< 2
   ·exact e2
   ·rcases h0.cur i s hi (by omega) with e3 | e3
    ·rw[h1.2.2.2] at e3;cases e3
    ·exact absurd e3 (h1.2.2.1 i)
 ·have hsn:s< D0.n:=by have:s< S.D.n:=hs;omega
  rw[gvn_at,h.fel];simp only[hsn,decide_true,Bool.true_and,Bool.or_eq_false_iff,decide_eq_false_iff_not];constructor
  ·rintro⟨e1,e2⟩
   rcases(h.acct s hsn).1 e1 with e | ⟨k,hk⟩ | ⟨i,hi⟩ | e
   ·exact .inl e
   ·by_cases e3:s=0
    ·exact .inl (by omega)
    ·cases hd:tc k with
     | false=>exact .inr (.inl ⟨k,by rw[h.keep k hd];exact hk⟩)
     | true=>exact absurd ((h.lf.2 s).2 (.inr ⟨e3,k,hd,hk⟩)) e2
   ·by_cases e3:s< 2
    ·exact .inl e3
    ·by_cases e4:tb[i]? =some s
     ·exact .inr (.inr (.inl ⟨i,e4⟩))
     ·exact absurd ((h.lf.2 s).2 (.inl ⟨by omega,i,hi,e4⟩)) e2
   ·rcases h.frr s e with e3 | ⟨k,e3,e4⟩
    ·obtain⟨i,hi⟩:=(h0.frr s e3).2.2.2.2
     exact .inr (.inr (.inl ⟨i,hi⟩))
    ·exact .inr (.inl ⟨k,e4⟩)
  ·rintro(e | ⟨k,hk⟩ | ⟨i,hi⟩ | e)
   ·exact⟨(h.acct s hsn).2 (.inl e),fun hm=>by have:=hlf2 s hm;omega⟩
   ·by_cases e3:s=0
    ·exact⟨(h.acct s hsn).2 (.inl (by omega)),fun hm=>by have:=hlf2 s hm;omega⟩
    ·have h1:=hpg k s hk e3
     cases hd:tc k with
     | false=>
      have hk0:=hk;rw[h.keep k hd] at hk0;refine⟨(h.acct s hsn).2 (.inr (.inl ⟨k,hk0⟩)),fun hm=>?_⟩;rcases(h.lf.2 s).1 hm with ⟨-,i,hi, -⟩ | ⟨-,m,hm1,hm2⟩
      ·exact h1.2.2.1 i hi
      ·have:=h0.jP k m s hk0 hm2 e3
       subst this;rw[hd] at hm1
       cases hm1
     | true=>
      rcases h.new k s hd hk with ⟨e, -⟩ | ⟨e1,e2, -⟩
      ·exact absurd e e3
      ·refine⟨(h.acct s hsn).2 (.inr (.inr (.inr e2))),fun hm=>?_⟩
       have h9:=h.frn s e2;rcases(h.lf.2 s).1 hm with ⟨-,i,hi, -⟩ | ⟨-,m, -,hm2⟩
       ·exact h9.2.2.2 i hi
       ·exact h9.2.2.1 m hm2
   ·by_cases e3:s< 2
    ·exact⟨(h.acct s hsn).2 (.inl e3),fun hm=>by have:=hlf2 s hm;omega⟩
    ·rcases h0.cur i s hi (by omega) with e | e
     ·have h9:=h.frn s (h.frk s e)
      refine⟨(h.acct s hsn).2 (.inr (.inr (.inr (h.frk s e)))),fun hm=>?_⟩;rcases(h.lf.2 s).1 hm with ⟨-,i',hi', -⟩ | ⟨-,m, -,hm2⟩
      ·exact h9.2.2.2 i' hi'
      ·exact h9.2.2.1 m hm2
     ·refine⟨(h.acct s hsn).2 (.inr (.inr (.inl ⟨i,e⟩))),fun hm=>?_⟩
      rcases(h.lf.2 s).1 hm with ⟨-,i',hi',hn'⟩ | ⟨-,m, -,hm2⟩
      ·have:=h0.jO i i' s e hi' (by omega)
       subst this;exact hn' hi
      ·have:=h0.dis m i s hm2 e;omega
   ·cases e
 ·rw[show cntN (fun _=>false) 64=0 from cntN_false fun _ _=>rfl]
  exact Nat.zero_le _
 ·rw[Dk.rooted_rd,if_pos rfl];rfl
 ·rw[Dk.rooted_rd] at hr
  by_cases e:i=(ep+1) % 2
  ·rw[if_pos e] at hr
   have hr':rootL (ep+1) S.pg D0.sz=rootL e' pg' D0.sz:=by
    have h9:(S.D.rooted (ep+1) S.pg).sz=D0.sz:=hn.2.1;rw[h9] at hr;rw[←hr,hn.2.1]
   obtain⟨e1,e2⟩:=rootL_inj hfit hz.2.2.2 hr';exact⟨by omega,fun _=>e2.symm⟩
  ·rw[if_neg e] at hr
   have e1:S.D.rd (i:Int)=D0.rd (i:Int):=h.rd i fun e=>by have:=(h.frn i e).1;omega
   rw[e1] at hr;have h9:(S.D.rooted (ep+1) S.pg).sz=D0.sz:=hn.2.1;rw[h9] at hr;obtain⟨e2, -⟩:=h0.dur.other i e' pg' hi hg hp hr;exact⟨by omega,fun e3=>by omega⟩
 ·have h9:(S.D.rooted (ep+1) S.pg).sz=D0.sz:=hn.2.1
  rw[h9] at hi ⊢
  cases hd:tc k with
  | false=>
   rw[h0.same_tab hd hi];rw[h.keep k hd] at hk
   exact h0.dur.tab0 k hk i hi
  | true=>
   rcases h.new k 0 hd hk with ⟨-,e⟩ | ⟨e, -⟩
   ·unfold someB at e
    have:=List.any_eq_false.1 e i (List.mem_range.2 hi);simpa using this
   ·omega
 ·have h9:(S.D.rooted (ep+1) S.pg).sz=D0.sz:=hn.2.1
  rw[h9];exact(hrd k s hk hs).1
 ·have h9:(S.D.rooted (ep+1) S.pg).sz=D0.sz:=hn.2.1
  rw[h9];exact(hrd k s hk hs).2
 ·rw[Dk.rooted_rd] at hx
  split at hx
  ·exact rootL_byte x hx
  ·exact h.byt s (by have:s< S.D.n:=hs;omega) x hx
 ·have hx2:x∈(S.D.rooted (ep+1) S.pg).rd (s:Int):=hx
  rw[Dk.rooted_rd] at hx2;split at hx2
  ·exact rootL_byte x hx2
  ·exact h.byt s (by have:s< S.D.n:=hs;omega) x hx2
end
end
section
open Go.RowKit Go.Maps
section
variable {w w':World} {L:Nat→Nat} {p d b ca c M1 s1 M2 s2:Nat} {X:Gp} {o:Cg} {A:Option Addr} {vp vt vw vl v:Value} {vo:Option Addr} {F:Nat→Prop}
theorem GIn.close (h:GIn w L p X d b A ca vp vt vo) :
  ∃L',GIn (w.setCell ⟨p,6,none⟩ (.pointer none)) L' p { X with op:=none } d b A ca vp vt none∧Rch (fun j=>L j≠0) (fun j=>L' j≠0) w (w.setCell ⟨p,6,none⟩ (.pointer none)):=by
 have hc:Chg (fun j=>j=p) w (w.setCell ⟨p,6,none⟩ (.pointer none)):=(Chg.refl (fun j=>j=p) w).setCell (p:=⟨p,6,none⟩) (fun _=>rfl) _;have hcL:Chg (fun j=>L j=1) w (w.setCell ⟨p,6,none⟩ (.pointer none)):=hc.mono fun i _ e=>e▸h.lp;obtain⟨L',hL'⟩:∃L':Nat→Nat,L'=fun j=>if L j≤5 then L j else 0:=⟨_,rfl⟩
 have lo:∀j m,m≠0→m≤5→(L' j=m↔L j=m):=fun j m h0 h4=>by
  rw[hL'];dsimp only;split<;>omega
 have hset:∀m,m≠0→m≤5→(fun j=>L' j=m)=(fun j=>L j=m):=fun m h1 h2=>funext fun j=>propext (lo j m h1 h2);have lz:∀j,L' j≠0→L j≠0:=fun j hj e=>by rw[hL'] at hj;simp[e] at hj
 refine⟨L',⟨?_,(lo p 1 (by omega) (by omega)).2 h.lp,?_,h.pol.chg hcL fun j hj e=>by have:=h.lo j hj;omega,fun j hj=>(lo j 3 (by omega) (by omega)).2 (h.lo j hj),own_lab h.pgs h.lg hcL (by omega),fun j hj=>(lo j 4 (by omega) (by omega)).2 (h.lg j hj),
   own_lab h.tbl h.lb hcL (by omega),fun j hj=>(lo j 5 (by omega) (by omega)).2 (h.lb j hj),rfl,fun j hj=>Nat.lt_of_lt_of_le (h.lt j (lz j hj)) hc.size,?_,tab_chg h.tab hcL (by rw[h.l0];omega)⟩,hc.mono fun i _ e=>by rw[e,h.lp];omega,fun j hj=> .inl (lz j hj)⟩
 ·have:=h.blk.put 6 (.pointer none)
  simpa using this
 ·rw[hset 2 (by omega) (by omega)]
  exact h.dsk.chg hcL fun j hj e=>by omega
 ·rw[hL'];simp[h.l0]
theorem GIn.pgset {l:List Nat} {b0 e:Nat} (h:GIn w L p X d b A ca vp vt vo) (ho:OutR b0 w (fun j=>L j≠0) 3 v l.length (nv l)) (h0:0< b0) (he:(e:Int)=(X.epoch:Int)+1) :
  ∃L',GIn ((w.setCell ⟨p,3,none⟩ v).setCell ⟨p,1,none⟩ (.int .i64 ((X.epoch:Int)+1))) L' p { X with pages:=l,epoch:=e } d b A ca v vt vo∧Chg (fun j=>L j≠0) w ((w.setCell ⟨p,3,none⟩ v).setCell ⟨p,1,none⟩ (.int .i64 ((X.epoch:Int)+1)))∧∀j,L' j≠0→L j≠0∨b0≤j:=by
 have hc:Chg (fun j=>j=p) w ((w.setCell ⟨p,3,none⟩ v).setCell ⟨p,1,none⟩ (.int .i64 ((X.epoch:Int)+1))):=((Chg.refl (fun j=>j=p) w).setCell (p:=⟨p,3,none⟩) (fun _=>rfl) _).setCell (p:=⟨p,1,none⟩) (fun _=>rfl) _;have hcL:Chg (fun j=>L j=1) w ((w.setCell ⟨p,3,none⟩ v).setCell ⟨p,1,none⟩ (.int .i64 ((X.epoch:Int)+1))):=hc.mono fun i _ e=>e▸h.lp
 classical
 obtain⟨L',hL'⟩:∃L':Nat→Nat,L'=fun j=>if v.ownBlock=some j then 4 else if L j=4 then 0 else L j:=⟨_,rfl⟩
 have hv0:∀j,v.ownBlock=some j→L j=0:=fun j hj=>by
  by_cases e:L j=0
  ·exact e
  ·exact absurd e (ho.out j hj)
 have lo:∀j m,m≠0→m≠4→(L' j=m↔L j=m):=fun j m h1 h2=>by
  rw[hL'];dsimp only;split
  ·rename_i e
   have:=hv0 j e;omega
  ·split<;>omega
 have hset:∀m,m≠0→m≠4→(fun j=>L' j=m)=(fun j=>L j=m):=fun m h1 h2=>funext fun j=>propext (lo j m h1 h2);have l4:∀j,v.ownBlock=some j→L' j=4:=fun j hj=>by rw[hL'];dsimp only;rw[if_pos hj]
 have lz:∀j,L' j≠0→L j≠0∨v.ownBlock=some j:=fun j hj=>by
  by_cases e:v.ownBlock=some j
  ·exact .inr e
  ·left
   intro e2;rw[hL'] at hj;simp[e,e2] at hj
 refine⟨L',⟨?_,(lo p 1 (by omega) (by omega)).2 h.lp,?_,h.pol.chg hcL fun j hj e=>by have:=h.lo j hj;omega,fun j hj=>(lo j 3 (by omega) (by omega)).2 (h.lo j hj),own_base (own_chg ho.own hcL fun j hj e=>by have:=hv0 j hj;omega) (Nat.zero_le _),l4,
   own_lab h.tbl h.lb hcL (by omega),fun j hj=>(lo j 5 (by omega) (by omega)).2 (h.lb j hj),?_,fun j hj=>?_,?_,tab_chg h.tab hcL (by rw[h.l0];omega)⟩,hc.mono fun i _ e=>by rw[e,h.lp];omega,fun j hj=>(lz j hj).imp id fun e=>(ho.own.lt j e).1⟩
 ·have:=(h.blk.put 3 v).put 1 (.int .i64 ((X.epoch:Int)+1))
  rw[he];simpa using this
 ·rw[hset 2 (by omega) (by omega)]
  exact h.dsk.chg hcL fun j hj e=>by omega
 ·have hop:=h.opn
  show OpnIn _ L' vo X.op
  cases hx:X.op with
  | none=>rw[hx] at hop;exact hop
  | some o=>
   rw[hx] at hop;obtain⟨c,vw,M1,s1,vl,M2,s2,rfl,hi⟩:=hop
   refine⟨c,vw,M1,s1,vl,M2,s2,rfl,⟨hi.blk.chg hcL (by rw[hi.lc];omega),(lo _ 6 (by omega) (by omega)).2 hi.lc,own_lab hi.was hi.lw hcL (by omega),fun j hj=>(lo j 7 (by omega) (by omega)).2 (hi.lw j hj),hi.fr.chg hcL (by rw[hi.lf];omega),(lo _ 8 (by omega) (by omega)).2 hi.lf,
    own_lab hi.lft hi.ll hcL (by omega),fun j hj=>(lo j 9 (by omega) (by omega)).2 (hi.ll j hj),hi.tch.chg hcL (by rw[hi.lt];omega),(lo _ 10 (by omega) (by omega)).2 hi.lt,hi.n1,hi.n2⟩⟩
 ·rcases lz j hj with e | e
  ·exact Nat.lt_of_lt_of_le (h.lt j e) hc.size
  ·exact Nat.lt_of_lt_of_le (ho.own.lt j e).2 hc.size
 ·rw[hL']
  dsimp only;rw[if_neg (fun e=>by have:=(ho.own.lt 0 e).1;omega),h.l0];simp
end
end
section
open Go.RowKit Go.Maps
def Gp.done (X:Gp) (o:Cg):Gp:= { X with free:=gvn X.free fun s=>decide (s∈o.left),op:=none }
def Gp.comm (X:Gp) (S:TbS):Gp:= { X with D:=S.D.rooted (X.epoch+1) S.pg,epoch:=X.epoch+1,pages:=S.pg,free:=gvn S.fe fun s=>decide (s∈S.lf),op:=none }
theorem TInv.pg4 {D0:Dk} {ep:Nat} {pg0 tb old lf0:List Nat} {fe0:List Bool} {fr0 tc dn:Nat→Bool} {S:TbS} {rem:Nat} (h0:Inv D0 ep pg0 tb old fe0 fr0 lf0 tc) (h:TInv D0 pg0 tb old fr0 S dn rem):∀s∈S.pg,s< 4096:=fun s hs=>by
 have hz:=h0.sz;obtain⟨k,hk⟩:=List.mem_iff_getElem?.1 hs;by_cases e:s=0
 ·omega
 ·cases hd:dn k with
  | false=>
   rw[h.keep k hd] at hk
   have:=(h0.rP k s hk e).2;omega
  | true=>
   rcases h.new k s hd hk with ⟨e1, -⟩ | ⟨e1,e2, -⟩
   ·omega
   ·have:=(h.frn s e2).2.1;omega
theorem dnOf_all (ks:List Nat):dnOf ks ks.length=fun s=>decide (s∈ks):=by funext s;unfold dnOf;rw[List.take_length]
theorem gcommit_touched (p:Nat) (F:Nat→Prop) (X:Gp) (o:Cg) (w:World) (h:GS w p F X) (hok:X.Ok) (hx:X.op=some o) (hne:0< (keysL o.touched 64).length) (hep:X.epoch< 1099511627776) (hfit:fitsN X.pages.length X.D.sz=true) :
  Calls prog 26 #[.pointer (some ⟨p,0,none⟩)] w fun e w'=>e= .returned (.int .i64 0)∧∃S,TInv X.D X.pages X.table o.was o.fresh S o.touched 0∧GTo w w' p F (X.comm S):=by
 have hrd:=gready_any p F X w h;rw[hok.rdy hx] at hrd;have htb:=gtables_ok p F X o w h hok hx hne;have hv:=hok.inv;simp only[Gp.old,Gp.fr,Gp.lf,Gp.tc,hx] at hv;have hup:=hok.up;have hpos:=tab_pos h.tab;obtain⟨L,d,b,A,ca,vp,vt,vo,h,hF⟩:=h;have ho:=h.opn;rw[hx] at ho;obtain⟨c,vw,M1,s1,vl,M2,s2,rfl,hi2⟩:=ho;obtain⟨c0,f0,s0⟩:=h.blk.facts
 obtain⟨c1,f1,s1'⟩:=hi2.blk.facts;have hlen:=hi2.tch.len (t:=103) underlying103 3;have hs2:0< s2:=by rw[hi2.n2.1,←keysL_len];exact hne
 have hs2':s2≤64:=by rw[hi2.n2.1];exact cntN_le _ _
 have hdn:dnOf (keysL o.touched 64) (keysL o.touched 64).length=o.touched:=by
  rw[dnOf_all];funext k
  by_cases e:o.touched k=true
  ·rw[e];exact decide_eq_true (mem_keysL.2 ⟨hi2.n2.2 k e,e⟩)
  ·rw[decide_eq_false (fun q=>e (mem_keysL.1 q).2)]
   exact(by simpa using e:o.touched k=false).symm
 have t1:decide ((0:Int)< (s2:Int))=true:=decide_eq_true (by omega);have H:=yH (yA5 hrd htb hv hup (yA3 hdn hx hfit));clear h hi2 hrd htb hv hup hdn hok hx hfit hF hne;go_enter func26,ntmps26
 go_wp2_with (go_at_call 54;(refine H.out.1.mono ?_);rintro e w1 ⟨rfl,rfl⟩)
 clear c0 f0 s0 c1 f1 s1' hlen;refine H.out.2.1.mono ?_;rintro e w1 ⟨S,F1,v,rfl,hT,⟨L1,d1,b1,A1,ca1,vp1,vt1,vo1,hG,hF1⟩,hr1,hO⟩;obtain rfl:F1=fun j=>L1 j≠0:=funext fun j=>propext (hF1 j);obtain⟨Av,cv,rfl, -⟩:=own_shape hO.own;obtain⟨cc,vwc,M1c,s1c,vlc,M2c,s2c,rfl, -⟩:=(show OpnIn w1 L1 vo1 (some { o with fresh:=S.fr,left:=S.lf }) from hG.opn)
 rw[(yP4 H.out).1] at hT;have hSn:=hT.n;have hpl:=hT.pgl;obtain⟨x0,y0,z0⟩:=hG.blk.facts;have hfl:=dflush_ok d1 _ S.D w1 hG.dsk (by rw[hSn.2.2.1];exact H.out.2.2.2.1.2.1) (by rw[hSn.2.2.2.1];exact H.out.2.2.2.1.2.2);have H1:=yH (yA5 hG hT hr1 hO (yA3 hfl hSn hpl));clear hG hT hr1 hO hfl hSn hpl hF1;go_wp2_with fail
 refine(yP4 H1.out).1.mono ?_;rintro e w2 ⟨rfl,h2⟩;obtain⟨L2,hG2,ht2⟩:=H1.out.1.disk h2;have hr2:=(ht2.s (K:=fun m=>m=2) H1.out.1.lt rfl (by omega)).rch (by omega) (fun j=>Iff.rfl);have hO2:=H1.out.2.2.2.1.rch hr2;clear x0 y0 z0;have x0:=(hG2.blk.drew).cell 0;have x1:=(hG2.blk.drew).cell 1;have H2:=yH (yA3 hG2 hr2 hO2);clear h2 hG2 ht2 hr2 hO2
 have w9:IntKind.i64.wrap ((X.epoch:Int)+1)=(X.epoch:Int)+1:=by have:=wrap_nat (n:=X.epoch+1) (by omega);simpa using this
 have x1':w2.drew.cell? ⟨p,1,none⟩=some (.int .i64 X.epoch):=x1;have x0':w2.drew.cell? ⟨p,0,none⟩=some (.pointer (some ⟨d1,0,none⟩)):=x0;clear x0 x1;go_wp2_with fail
 have hS:w2.drew.cell? ⟨p,0,none⟩=some (.pointer (some ⟨d1,0,none⟩))∧w2.drew.cell? ⟨p,1,none⟩=some (.int .i64 X.epoch):=⟨x0',x1'⟩;refine wp_region_held_drew (S:=fun W'=>W'.cell? ⟨p,0,none⟩=some (.pointer (some ⟨d1,0,none⟩))∧W'.cell? ⟨p,1,none⟩=some (.int .i64 X.epoch)) (by kernel_rfl) hS (fun hHeld=>?_)
 refine Todo.out (is:=[0,1,2,3,4,5,6,7,8,9,10]) ?_
 repeat
  refine tkH (v:=?_) rfl (Or.inl ⟨by rfl,?_⟩) hHeld ?_;rotate_left
  ·(intro w hSw;(try dsimp only at hSw);go_simp)<;>with_reducible rfl
  (try simp only[Act.put,lZ])
 refine Todo.fin ?_;refine rdH (i:=11) (by kernel_rfl) rfl fun K hK=>?_;go_simp
 have hsv:=save_ok d1 (fun q=>L2 q=2) S.D.flushed (X.epoch+1) S.pg Av cv w2.drew (H2.out.1.dsk.grew ((Chg.refl _ _).drew)) (by rw[←H.out.2.2.2.1.2.1];exact(yP4 H1.out).2.1.2.2.1) (by rw[←H.out.2.2.2.1.2.2];exact(yP4 H1.out).2.1.2.2.2.1) (by have h8:=H.out.2.2.1.sz;have h9:=(yP4 H1.out).2.1.1;show 2≤S.D.n;omega)
  (by have:=Sl.of_own (own_base H2.out.2.2.own (Nat.zero_le _));rw[(yP6 H1.out)];exact this.grew ((Chg.refl _ _).drew)) (by omega) (by omega) (by rw[(yP6 H1.out)];exact H.out.2.2.1.pg64) (TInv.pg4 H.out.2.2.1 H1.out.2.1) (by
   show(bodyL (X.epoch+1) S.pg).length+14≤S.D.sz;rw[(yP4 H1.out).2.1.2.1];exact body_fits (by rw[(yP6 H1.out)];exact(yP6 H.out)) (by omega) (TInv.pg4 H.out.2.2.1 H1.out.2.1))
 rw[(yP6 H1.out),show(((X.epoch+1:Nat)):Int)=(X.epoch:Int)+1 from by simp] at hsv;refine hsv.mono ?_;clear hsv;rintro e w3 ⟨rfl,h3⟩;obtain⟨L3,hG3,ht3⟩:=(H2.out.1.grew ((Chg.refl _ _).drew)).disk h3;have hr3:=(ht3.s (K:=fun m=>m=2) (H2.out.1.grew ((Chg.refl _ _).drew)).lt rfl (by omega)).rch (by omega) (fun j=>Iff.rfl)
 have hO3:=(H2.out.2.2.grew ((Chg.refl _ _).drew)).rch hr3;have hH3:w3.cell? ⟨p,0,none⟩=some (.pointer (some ⟨d1,0,none⟩))∧w3.cell? ⟨p,1,none⟩=some (.int .i64 X.epoch):=⟨hG3.blk.cell 0,hG3.blk.cell 1⟩;refine hK.out _ _ hH3 (fun hHeld=>?_);clear hK K;(try simp only[Act.put,lZ])
 refine rdH (i:=12) (by kernel_rfl) rfl fun K hK=>?_;go_simp;refine hK.out _ _ hH3 (fun hHeld=>?_);clear hK K;(try simp only[Act.put,lZ])
 refine wpAnyH_done (by kernel_rfl) ?_ _;clear hHeld hH3 hS x0' x1';obtain⟨L4,hG4,hc4,hn4⟩:=hG3.pgset (e:=X.epoch+1) (l:=S.pg) (by rw[(yP6 H1.out)];exact hO3) hpos (by simp;rfl);have hr3F:=H1.out.2.2.1.trans (H2.out.2.1.trans ((Rch.grew ((Chg.refl _ _).drew)).trans hr3));obtain⟨y0,y1,y2⟩:=hG3.blk.facts
 obtain⟨W4,hW4⟩:∃W,(w3.setCell ⟨p,3,none⟩ (.slice Av X.pages.length cv)).setCell ⟨p,1,none⟩ (.int .i64 ((X.epoch:Int)+1))=W:=⟨_,rfl⟩;obtain⟨XC4,hXC⟩:∃Y:Gp,({ X.comm S with free:=S.fe,op:=some { o with fresh:=S.fr,left:=S.lf } }:Gp)=Y:=⟨_,rfl⟩;have hXop:XC4.op=some { o with fresh:=S.fr,left:=S.lf }:=by rw[←hXC]
 obtain⟨vp4,hvp4⟩:∃v,Value.slice Av X.pages.length cv=v:=⟨_,rfl⟩;have hG4':GIn W4 L4 p XC4 d1 b1 A1 ca1 vp4 vt1 (some ⟨cc,0,none⟩):=by rw[←hXC,←hvp4];exact hW4▸hG4
 have hG4f:GIn W4 L4 p { XC4 with free:=S.fe } d1 b1 A1 ca1 vp4 vt1 (some ⟨cc,0,none⟩):=by rw[show({ XC4 with free:=S.fe }:Gp)=XC4 from by rw[←hXC]];exact hG4'
 have HXC:=yH hXC;have hr4:Rch F (fun j=>L4 j≠0) w W4:=⟨Chg.trans hr3F.chg (hW4▸hc4) fun i hi e=>(hr3F.new i e).resolve_right (by omega),fun j hj=>(hn4 j hj).elim (hr3F.new j) .inr⟩;have HW4:=yH hW4;obtain⟨cc',vw4,M14,s14,vl4,M24,s24,e4,hi4⟩:=(show OpnIn W4 L4 (some ⟨cc,0,none⟩) (some { o with fresh:=S.fr,left:=S.lf }) from hXop▸hG4'.opn)
 obtain rfl:cc=cc':=by injection e4 with e;injection e
 obtain⟨Al,cl,rfl, -⟩:=own_shape hi4.lft;obtain⟨z0,z1,z2⟩:=hG4'.blk.facts;obtain⟨z3,z4,z5⟩:=hi4.blk.facts;have hlf4:=TInv.lfle H.out.2.2.1 H1.out.2.1;have hfe4:S.fe.length≤4096:=by have h8:=H1.out.2.1.fel;have h9:=H.out.2.2.1.sz;omega
 have hlff:∀s∈S.lf,s< S.fe.length∧S.fe.getD s false=false:=fun s hs=>by
  have h8:=H1.out.2.1.fel;rcases(H1.out.2.1.lf.2 s).1 hs with ⟨-,i,hi, -⟩ | ⟨e,k, -,hk⟩
  ·have:=H.out.2.2.1.rO i s hi
   exact⟨by omega,(H1.out.2.1.acct s this).2 (.inr (.inr (.inl ⟨i,hi⟩)))⟩
  ·have:=(H.out.2.2.1.rP k s hk e).2
   exact⟨by omega,(H1.out.2.1.acct s this).2 (.inr (.inl ⟨k,hk⟩))⟩
 have HL:=yH (yA5 hG4f hi4 H1.out.2.1.lf.1 hlff (yA hr4 hfe4));clear h3 hG3 ht3 hr3 hO3 hG4 hc4 hn4 hr3F hW4 hG4' hG4f hi4 hr4 e4 hlff hvp4 hXop hXC;go_wp2_with (rw[HW4.out])
 clear z0 z1 z2 z3 z4 z5 y0 y1 y2;go_loopg [72] S.lf.length (fun q v wr=>∃i:Nat,q=S.lf.length - i∧i≤S.lf.length∧v= .int .i64 i∧GIn wr L4 p { XC4 with free:=gvn S.fe (dnOf S.lf i) } d1 b1 A1 ca1 vp4 vt1 (some ⟨cc,0,none⟩)∧Chg (fun j=>L4 j=3) W4 wr)
 case atStart=>
  refine⟨0,rfl,Nat.zero_le _,rfl,?_,Chg.refl _ _⟩;rw[dnOf_zero,gvn_none];exact HL.out.1
 case round=>
  obtain⟨i,rfl,hi,rfl,hG,hC⟩:=hrel;by_cases hlt:i< S.lf.length
  ·obtain⟨s,hs⟩:∃s,S.lf[i]? =some s:=⟨_,List.getElem?_eq_getElem hlt⟩
   have hl3:=own_lab HL.out.2.1.lft HL.out.2.1.ll hC (by omega);have hl3':wr.ownsRow 0 3 1 (.slice Al S.lf.length cl) S.lf.length (nv S.lf):=hl3;obtain⟨gl,rfl,hgl⟩:=own_block hl3' (by omega)
   have cs:wr.cell? ⟨gl,i,none⟩=some (.int .i64 s):=by
    have:=hl3'.cells (g:=gl) rfl i (.int .i64 s) (by simp[nv,hs]);rwa[Addr.add_lit,Nat.zero_add] at this
   obtain⟨hfs1,hfs2⟩:=HL.out.2.2.2.1 s (List.mem_of_getElem? hs);have hs4:s< 4096:=by have:=(yP4 HL.out).2;omega
   have hgv:=pgive_any b1 s _ A1 ca1 wr hG.pol (by show(gvn S.fe _).length≤65536;rw[gvn_len];have:=(yP4 HL.out).2;omega);have htl:=gvn_give S.fe (dnOf S.lf i) s hfs1 hfs2 (dnOf_new HL.out.2.2.1 hs)
   have hgv2:Calls prog 67 #[.pointer (some ⟨b1,0,none⟩),.int .i64 (s:Int)] wr fun e w'=>e= .returned (.int .i64 0)∧PIn w' b1 (gvn S.fe (setB (dnOf S.lf i) s true)) A1 ca1∧Chg (PF b1 A1) wr w':=by
    rw[←show(toL (gvn S.fe (dnOf S.lf i)) (s:Int) true).1=gvn S.fe (setB (dnOf S.lf i) s true) from by rw[htl]];refine hgv.mono fun e w' h=>?_;rw[show(toL ({ XC4 with free:=gvn S.fe (dnOf S.lf i) }:Gp).free (s:Int) true)=(gvn S.fe (setB (dnOf S.lf i) s true),0) from htl] at h
    rw[htl];exact h
   have HR:=yH (yA4 hG hgv2 hs hC);obtain⟨z0,z1,z2⟩:=hG.blk.facts;clear hG hgv hgv2 htl hfs1 hfs2 hs hC hl3 hl3';go_wp2_with (go_at_call 67;(refine HR.out.2.1.mono ?_);rintro e w5 ⟨rfl,h4,h5⟩;have H5:=yH (yA h4 h5);clear h4 h5 z0 z1 z2)
   obtain⟨hG5,ht5⟩:=HR.out.1.pool H5.out.1 H5.out.2;go_roundg (S.lf.length - (i+1))
   case measure=>omega
   case rel=>
    refine⟨i+1,rfl,by omega,by simp,?_,Chg.trans HR.out.2.2.2 ht5.chg fun j _ e=>e⟩;rw[dnOf_step HR.out.2.2.1];exact hG5
  ·obtain rfl:i=S.lf.length:=by omega
   have HD:=yH (yA hG hC);obtain⟨z0,z1,z2⟩:=hG.blk.facts;clear hG hC;go_wp2
   go_ret
   obtain⟨L9,hG9,hr9⟩:=HD.out.1.close;have hr8:Rch (fun j=>L4 j≠0) (fun j=>L4 j≠0) W4 wr:=⟨HD.out.2.mono fun j _ e=>by omega,fun j hj=> .inl hj⟩;rw[dnOf_all] at hG9
   refine⟨rfl,S,H1.out.2.1,fun j=>L9 j≠0,?_,((yP4 HL.out).1.trans (hr8.trans hr9)).chg,((yP4 HL.out).1.trans (hr8.trans hr9)).new⟩;rw[←HXC.out] at hG9;exact hG9.gs
end
section
open Go.RowKit Go.Maps
theorem gcommit_same (p:Nat) (F:Nat→Prop) (X:Gp) (o:Cg) (w:World) (h:GS w p F X) (hok:X.Ok) (hx:X.op=some o) (hno:∀k,o.touched k=false) :
  Calls prog 26 #[.pointer (some ⟨p,0,none⟩)] w fun e w'=>e= .returned (.int .i64 0)∧GTo w w' p F (X.done o):=by
 have hrd:=gready_any p F X w h;rw[hok.rdy hx] at hrd;have hv:=hok.inv;simp only[Gp.old,Gp.fr,Gp.lf,Gp.tc,hx] at hv;obtain⟨L,d,b,A,ca,vp,vt,vo,h,hF⟩:=h;have ho:=h.opn;rw[hx] at ho;obtain⟨cc,vw,M1,s1,vl,M2,s2,rfl,hi2⟩:=ho;obtain⟨Al,cl,rfl, -⟩:=own_shape hi2.lft;obtain⟨c0,f0,s0⟩:=h.blk.facts;obtain⟨c1,f1,s1'⟩:=hi2.blk.facts
 have hlen:=hi2.tch.len (t:=103) underlying103 3;have hs2:s2=0:=by rw[hi2.n2.1];exact cntN_false fun k _=>hno k
 rw[hs2] at hlen
 have hlff:∀s∈o.left,s< X.free.length∧X.free.getD s false=false:=fun s hs=>by
  obtain⟨-,i,hi, -⟩:=(hv.lf.2 s).1 hs;have:=hv.rO i s hi;exact⟨by rw[hv.lens.1];exact this,(hv.acct s this).2 (.inr (.inr (.inl ⟨i,hi⟩)))⟩
 have hfe:X.free.length≤4096:=by rw[hv.lens.1];exact hv.sz.2.1
 have hlle:o.left.length≤4096:=by
  have h1:=List.Nodup.length_le_of_subset hv.lf.1 (l₂:=List.range X.D.n) fun s hs=>List.mem_range.2 (by have:=(hlff s hs).1;rw[hv.lens.1] at this;exact this);rw[List.length_range] at h1;have:=hv.sz;omega
 obtain rfl:F=fun j=>L j≠0:=funext fun j=>propext (hF j);have HL:=yH (yA5 (show GIn w L p { X with free:=X.free } d b A ca vp vt (some ⟨cc,0,none⟩) from h) hi2 hv.lf.1 hlff (yA (show Rch (fun j=>L j≠0) (fun j=>L j≠0) w w from Rch.grew (Chg.refl _ _)) hfe));have H:=yH hrd;clear h hi2 hrd hv hlff hok hx hF hs2 hno hfe;go_enter func26,ntmps26
 go_wp2_with (go_at_call 54;(refine H.out.mono ?_);rintro e w1 ⟨rfl,rfl⟩)
 clear c0 f0 s0 c1 f1 s1' hlen;go_loopg [72] o.left.length (fun q v wr=>∃i:Nat,q=o.left.length - i∧i≤o.left.length∧v= .int .i64 i∧GIn wr L p { X with free:=gvn X.free (dnOf o.left i) } d b A ca vp vt (some ⟨cc,0,none⟩)∧Chg (fun j=>L j=3) w wr)
 case atStart=>
  refine⟨0,rfl,Nat.zero_le _,rfl,?_,Chg.refl _ _⟩;rw[dnOf_zero,gvn_none];exact HL.out.1
 case round=>
  obtain⟨i,rfl,hi,rfl,hG,hC⟩:=hrel;by_cases hlt:i< o.left.length
  ·obtain⟨s,hs⟩:∃s,o.left[i]? =some s:=⟨_,List.getElem?_eq_getElem hlt⟩
   have hl3:=own_lab HL.out.2.1.lft HL.out.2.1.ll hC (by omega);have hl3':wr.ownsRow 0 3 1 (.slice Al o.left.length cl) o.left.length (nv o.left):=hl3;obtain⟨gl,rfl,hgl⟩:=own_block hl3' (by omega)
   have cs:wr.cell? ⟨gl,i,none⟩=some (.int .i64 s):=by
    have:=hl3'.cells (g:=gl) rfl i (.int .i64 s) (by simp[nv,hs]);rwa[Addr.add_lit,Nat.zero_add] at this
   obtain⟨hfs1,hfs2⟩:=HL.out.2.2.2.1 s (List.mem_of_getElem? hs);have hs4:s< 4096:=by have:=(yP4 HL.out).2;omega
   have hgv:=pgive_any b s _ A ca wr hG.pol (by show(gvn X.free _).length≤65536;rw[gvn_len];have:=(yP4 HL.out).2;omega);have htl:=gvn_give X.free (dnOf o.left i) s hfs1 hfs2 (dnOf_new HL.out.2.2.1 hs)
   have hgv2:Calls prog 67 #[.pointer (some ⟨b,0,none⟩),.int .i64 (s:Int)] wr fun e w'=>e= .returned (.int .i64 0)∧PIn w' b (gvn X.free (setB (dnOf o.left i) s true)) A ca∧Chg (PF b A) wr w':=by
    rw[←show(toL (gvn X.free (dnOf o.left i)) (s:Int) true).1=gvn X.free (setB (dnOf o.left i) s true) from by rw[htl]];refine hgv.mono fun e w' h=>?_;rw[show(toL ({ X with free:=gvn X.free (dnOf o.left i) }:Gp).free (s:Int) true)=(gvn X.free (setB (dnOf o.left i) s true),0) from htl] at h
    rw[htl];exact h
   have HR:=yH (yA4 hG hgv2 hs hC);obtain⟨z0,z1,z2⟩:=hG.blk.facts;clear hG hgv hgv2 htl hfs1 hfs2 hs hC hl3 hl3';go_wp2_with (go_at_call 67;(refine HR.out.2.1.mono ?_);rintro e w5 ⟨rfl,h4,h5⟩;have H5:=yH (yA h4 h5);clear h4 h5 z0 z1 z2)
   obtain⟨hG5,ht5⟩:=HR.out.1.pool H5.out.1 H5.out.2;go_roundg (o.left.length - (i+1))
   case measure=>omega
   case rel=>
    refine⟨i+1,rfl,by omega,by simp,?_,Chg.trans HR.out.2.2.2 ht5.chg fun j _ e=>e⟩;rw[dnOf_step HR.out.2.2.1];exact hG5
  ·obtain rfl:i=o.left.length:=by omega
   have HD:=yH (yA hG hC);obtain⟨z0,z1,z2⟩:=hG.blk.facts;clear hG hC;go_wp2
   go_ret
   obtain⟨L9,hG9,hr9⟩:=HD.out.1.close;have hr8:Rch (fun j=>L j≠0) (fun j=>L j≠0) w wr:=⟨HD.out.2.mono fun j _ e=>by omega,fun j hj=> .inl hj⟩;rw[dnOf_all] at hG9
   refine⟨rfl,fun j=>L9 j≠0,?_,((yP4 HL.out).1.trans (hr8.trans hr9)).chg,((yP4 HL.out).1.trans (hr8.trans hr9)).new⟩;exact hG9.gs
end
section
open Go.RowKit Go.Maps
def Pk.kept:Pk→Pk
 | .new bs=> .old bs
 | c=>c
def Rp.comm (x:Rp):Rp:= { x with now:=x.now.map Pk.kept,was:=none,touched:=fun _=>false,epoch:=if cntN x.touched 64=0 then x.epoch else x.epoch+1 }
def Rp.abort (x:Rp):Rp:= { x with now:=x.was.getD [],was:=none,touched:=fun _=>false }
theorem pk_kept (D:Dk) (fr:Nat→Bool) (s:Nat) (h:fr s=true→2≤s):(pk D fr s).kept=pk D (fun _=>false) s:=by
 unfold pk;by_cases h0:s=0
 ·rw[if_pos h0,if_pos h0];rfl
 ·rw[if_neg h0,if_neg h0]
  by_cases h1:s=1
  ·rw[if_pos h1,if_pos h1];rfl
  ·rw[if_neg h1,if_neg h1]
   cases fr s<;>rfl
theorem tabs_fit (row need sz:Nat):∀f k0,tabs row need sz f k0=k0∨fitsN (tabs row need sz f k0) sz=true
 | 0,k0=> .inl rfl
 | f+1,k0=>by
  unfold tabs;split
  ·rename_i hc
   rcases tabs_fit row need sz f (k0+1) with e | e
   ·right;rw[e];exact hc.1
   ·exact .inr e
  ·exact .inl rfl
theorem tabN_fit {n sz:Nat} (h:0< tabN n sz):fitsN (tabN n sz) sz=true:=by
 rcases tabs_fit (sz / 2) (n - 2) sz 64 0 with e | e
 ·unfold tabN at h;rw[e] at h;omega
 ·exact e
section
variable {D:Dk} {ep:Nat} {pg tb old lf:List Nat} {fe:List Bool} {fr tc:Nat→Bool}
theorem Inv.none_touched (h:Inv D ep pg tb old fe fr lf tc) (hn:∀k,tc k=false):tb=old∧(∀s,fr s=false)∧lf=[]:=by
 have e:tb=old:=List.ext_getElem? fun i=>by
  by_cases e:tb[i]? =old[i]?
  ·exact e
  ·have:=h.tcd i e;rw[hn] at this;cases this
 subst e;refine⟨rfl,fun s=>?_,?_⟩
 ·cases e:fr s with
  | false=>rfl
  | true=>
   obtain⟨-, -, -,h4,i,hi⟩:=h.frr s e;exact absurd hi (h4 i)
 ·cases lf with
  | nil=>rfl
  | cons s t=>
   obtain⟨-,i,h1,h2⟩:=(h.lf.2 s).1 (List.mem_cons_self);exact absurd h1 h2
theorem Inv.abort (h:Inv D ep pg tb old fe fr lf tc):Inv D ep pg old old (gvn fe fr) (fun _=>false) [] (fun _=>false):=by
 refine⟨h.sz,⟨by rw[gvn_len];exact h.lens.1,h.lens.2.1,h.lens.2.2.2,h.lens.2.2.2⟩,h.rO,h.rP,h.jO,h.jP,h.dis,fun s hs=>?_,fun s e=>(by cases e),fun i s hi _=> .inr hi,h.jO,⟨List.nodup_nil,fun s=>⟨fun e=>(by cases e),fun e=>by obtain⟨-,i,h1,h2⟩:=e;exact absurd h1 h2⟩⟩,fun i hi=>absurd rfl hi,fun k e=>(by cases e),?_,h.cln,h.dur,h.byt,h.epo,h.byd⟩
 ·rw[gvn_at,h.lens.1]
  simp only[hs,decide_true,Bool.true_and,Bool.or_eq_false_iff];constructor
  ·rintro⟨e1,e2⟩
   rcases(h.acct s hs).1 e1 with e | e | e | e
   ·exact .inl e
   ·exact .inr (.inl e)
   ·exact .inr (.inr (.inl e))
   ·rw[e2] at e;cases e
  ·rintro(e | ⟨k,e⟩ | ⟨i,e⟩ | e)
   ·refine⟨(h.acct s hs).2 (.inl e),h.fr0 e⟩
   ·refine⟨(h.acct s hs).2 (.inr (.inl ⟨k,e⟩)),?_⟩
    cases q:fr s with
    | false=>rfl
    | true=>exact absurd e ((h.frr s q).2.2.1 k)
   ·refine⟨(h.acct s hs).2 (.inr (.inr (.inl ⟨i,e⟩))),?_⟩
    cases q:fr s with
    | false=>rfl
    | true=>exact absurd e ((h.frr s q).2.2.2.1 i)
   ·cases e
 ·rw[show cntN (fun _=>false) 64=0 from cntN_false fun _ _=>rfl]
  exact Nat.zero_le _
end
section
variable (p:Nat) (F:Nat→Prop) (x:Rp) (w:World)
theorem gp_commit (h:GP w p F x) (ho:x.was≠none) (hep:x.epoch< 1099511627776) :
  Calls prog 26 #[.pointer (some ⟨p,0,none⟩)] w fun e' w'=>e'= .returned (.int .i64 0)∧GPTo w w' p F x.comm:=by
 obtain⟨X,h1,h2,rfl⟩:=h;obtain⟨o,hx⟩:=Gp.view_op ho;have hv:=h2.inv;simp only[Gp.old,Gp.fr,Gp.lf,Gp.tc,hx] at hv;have htc:X.view.touched=o.touched:=by show X.tc=_;simp only[Gp.tc,hx]
 have hfr:X.fr=o.fresh:=by simp only[Gp.fr,hx]
 have h64:∀k,o.touched k=true→k< 64:=fun k hk=>Nat.lt_of_lt_of_le (hv.tc6 k hk) hv.pg64
 have hnow:X.view.now.map Pk.kept=X.table.map (pk X.D fun _=>false):=by
  show(X.table.map (pk X.D X.fr)).map Pk.kept=_;rw[List.map_map,hfr];exact List.map_congr_left fun s _=>pk_kept X.D o.fresh s fun e=>(hv.frr s e).1
 by_cases hc:cntN o.touched 64=0
 ·have hno:∀k,o.touched k=false:=fun k=>by
   cases e:o.touched k with
   | false=>rfl
   | true=>
    have h9:k∈keysL o.touched 64:=mem_keysL.2 ⟨h64 k e,e⟩;have h8:=keysL_len o.touched 64;rw[hc] at h8;rw[List.eq_nil_of_length_eq_zero h8] at h9
    cases h9
  obtain⟨e1,e2,e3⟩:=hv.none_touched hno;refine(gcommit_same p F X o w h1 h2 hx hno).mono ?_;rintro e w1 ⟨rfl,h3⟩;refine⟨rfl,h3.gp ⟨?_,h2.row,h2.up⟩ ?_⟩
  ·have hgv:(gvn X.free fun s=>decide (s∈o.left))=X.free:=by rw[e3];simpa using gvn_none X.free
   show Inv X.D X.epoch X.pages X.table X.table (gvn X.free fun s=>decide (s∈o.left)) (fun _=>false) [] (fun _=>false);rw[hgv];have h9:=hv;rw[←e1,e3,show o.fresh=fun _=>false from funext e2,show o.touched=fun _=>false from funext hno] at h9;exact h9
  ·show Gp.view (X.done o)=Rp.comm X.view
   unfold Rp.comm;rw[hnow,htc,if_pos hc];simp[Gp.view,Gp.done,Gp.fr,Gp.tc]
 ·have hne:0< (keysL o.touched 64).length:=by rw[keysL_len];omega
  have hpl:0< X.pages.length:=by
   obtain⟨k,hk⟩:=List.exists_mem_of_length_pos hne;have:=hv.tc6 k (mem_keysL.1 hk).2;omega
  have hfit:fitsN X.pages.length X.D.sz=true:=by
   rw[hv.lens.2.1] at hpl ⊢;exact tabN_fit hpl
  refine(gcommit_touched p F X o w h1 h2 hx hne hep hfit).mono ?_;rintro e w1 ⟨rfl,S,hT,h3⟩;have hI:=TInv.commit hv hT hep hfit;refine⟨rfl,h3.gp ⟨hI,?_,?_⟩ ?_⟩
  ·show X.row=S.D.sz / 2
   rw[hT.n.2.1];exact h2.row
  ·exact⟨h2.up.1,by show S.D.down=false;rw[hT.n.2.2.1];exact h2.up.2.1,by show S.D.armed=false;rw[hT.n.2.2.2.1];exact h2.up.2.2⟩
  ·show Gp.view (X.comm S)=Rp.comm X.view
   unfold Rp.comm;rw[hnow,htc,if_neg hc]
   have e1:X.table.map (pk (S.D.rooted (X.epoch+1) S.pg) fun _=>false)=X.table.map (pk X.D fun _=>false):=List.map_congr_left fun s hs=>by
    obtain⟨i,hi⟩:=List.mem_iff_getElem?.1 hs;unfold pk;by_cases h0:s=0
    ·rw[if_pos h0,if_pos h0]
    ·by_cases h1:s=1
     ·rw[if_neg h0,if_pos h1,if_neg h0,if_pos h1]
     ·have hm2:=Nat.mod_lt (X.epoch+1) (show 0< 2 by omega)
      rw[if_neg h0,if_neg h1,if_neg h0,if_neg h1,Dk.rooted_rd,if_neg (show¬s=(X.epoch+1) % 2 by omega)]
      rw[hT.rd s fun e=>by
       rcases hv.cur i s hi (by omega) with e2 | e2
       ·exact e2
       ·exact absurd e2 ((hT.frn s e).2.2.2 i)]
   have hn:=hT.n;unfold Gp.view Gp.comm;simp only[Gp.fr,Gp.tc,Option.map_none];rw[e1];show Rp.mk S.D.n S.D.sz _ _ _ _ S.D.id=Rp.mk X.D.n X.D.sz _ _ _ _ X.D.id;rw[hn.1,hn.2.1,(yP4 hn)]
theorem gp_abort (h:GP w p F x) (ho:x.was≠none) :
  Calls prog 31 #[.pointer (some ⟨p,0,none⟩)] w fun e' w'=>e'= .returned (.int .i64 0)∧GPTo w w' p F x.abort:=by
 obtain⟨X,h1,h2,rfl⟩:=h;obtain⟨o,hx⟩:=Gp.view_op ho;have hv:=h2.inv;simp only[Gp.old,Gp.fr,Gp.lf,Gp.tc,hx] at hv;refine(gabort_ok p F X o w h1 h2 hx).mono ?_;rintro e w1 ⟨rfl,h3⟩;refine⟨rfl,h3.gp ⟨hv.abort,h2.row,h2.up⟩ ?_⟩;show Gp.view (X.abort o)=Rp.abort X.view;unfold Rp.abort;rw[Gp.view_was hx];simp[Gp.view,Gp.abort,Gp.fr,Gp.tc]
end
end
section
open Go.RowKit Go.Maps
end
section
open Go.RowKit Go.Maps
theorem Pk.kept_used (c:Pk):c.kept.used=c.used:=by cases c<;>rfl
theorem Pk.kept_bytes (c:Pk) (sz:Nat):c.kept.bytes sz=c.bytes sz:=by cases c<;>rfl
theorem Rp.comm_nd (x:Rp) (q:Nat):x.comm.nd q=x.nd q:=by
 unfold Rp.nd Rp.comm;simp only[List.getElem?_map]
 cases x.now[q]? with
 | none=>rfl
 | some c=>simp[Pk.kept_used,Pk.kept_bytes]
section
variable {x z:Rp} {D root:Nat} {L:List KV} {P:List Nat}
theorem TS.comm (h:TS x D root L P):TS x.comm D root L P:=by
 refine⟨h.tr.frame fun i _=>Rp.comm_nd x i,h.nd,h.srt,?_⟩;show(x.now.map Pk.kept).countP Pk.used=_;rw[List.countP_map,show Pk.used∘Pk.kept=Pk.used from funext Pk.kept_used];exact h.used
theorem TS.begun (h:TS x D root L P):TS x.begun D root L P:=⟨h.tr,h.nd,h.srt,h.used⟩
theorem like_abort_now (hl:x.begun.like z):z.abort.now=x.now∧z.abort.sz=x.sz∧z.abort.was=none∧z.abort.epoch=x.epoch:=by
 refine⟨?_,hl.sz,rfl,hl.epoch⟩;show z.was.getD []=x.now;rw[hl.was];rfl
theorem TS.abort (h:TS x D root L P) (hl:x.begun.like z):TS z.abort D root L P:=by
 obtain⟨h1,h2, -, -⟩:=like_abort_now hl;have hn:∀q,z.abort.nd q=x.nd q:=fun q=>by unfold Rp.nd;rw[h1,h2]
 exact⟨by rw[h2];exact h.tr.frame fun i _=>hn i,h.nd,h.srt,by rw[h1];exact h.used⟩
end
section
variable {w W W1 W2 W3:World} {t p r:Nat} {x0:Rp} {L R:List KV} {F F' F2:Nat→Prop} {y y':Rp} {D D':Nat} {P P':List Nat} {A A2:Option Addr} {c2:Nat}
theorem PlJ.go (h:PlJ w W t p r x0 L F y D P A) (hb:BT W1 t p r F' y') (hr:Rch F F' W W1) (hs:TS y' D' r L P'):PlJ w W1 t p r y' L F' y' D' P' A:=by
 have hz:=h.gr.size;refine⟨hb,hs,.refl _,Chg.trans h.gr hr.chg fun j hj e=>by have:=h.fn j e;omega,fun j hj=>(hr.new j hj).elim (h.fn j) fun e=>by omega,h.sl.chg hr.chg fun a ha=>(h.af a ha).1,fun a ha=>?_⟩;have h1:=h.af a ha;have:=hr.chg.size;exact⟨fun e=>(hr.new _ e).elim h1.1 fun e=>by omega,by omega⟩
theorem PlJ.commit (h:PlJ w W t p r x0 L F y D P A) (ho:y.was≠none) (he:y.epoch< 1000) :
  Calls prog 26 #[.pointer (some ⟨p,0,none⟩)] W fun e w'=>e= .returned (.int .i64 0)∧∃F',PlJ w w' t p r y.comm L F' y.comm D P A:=by
 refine(gp_commit p F y W h.bt.gp ho (by omega)).mono ?_;rintro e w1 ⟨rfl,hto⟩;obtain⟨F1,hb1,hc1,hn1⟩:=h.bt.to hto;exact⟨rfl,F1,h.go hb1 ⟨hc1,hn1⟩ h.ts.comm⟩
theorem PlJ.begin (h:PlJ w W t p r x0 L F y D P A) (ho:y.was=none) :
  Calls prog 27 #[.pointer (some ⟨p,0,none⟩)] W fun e w'=>e= .returned (.int .i64 0)∧∃F',Rch F F' W w'∧PlJ w w' t p r y.begun L F' y.begun D P A:=by
 refine(gp_begin p F y W h.bt.gp ho).mono ?_;rintro e w1 ⟨rfl,hto⟩;obtain⟨F1,hb1,hc1,hn1⟩:=h.bt.to hto;exact⟨rfl,F1,⟨hc1,hn1⟩,h.go hb1 ⟨hc1,hn1⟩ h.ts.begun⟩
end
end
end Go.Proofs.YtpkkcicaeldodaaGreatDoor
