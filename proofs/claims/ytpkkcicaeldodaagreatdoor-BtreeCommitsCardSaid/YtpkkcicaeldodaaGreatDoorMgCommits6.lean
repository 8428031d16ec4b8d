/- Texts 6 of 8 that the proof of Commits stands on. -/
import Derived.Test.YtpkkcicaeldodaaGreatDoorMgCommits5
import Derived.Sort.LoopGhostIn
import Derived.BigGuardIn
set_option linter.unusedSimpArgs false
set_option linter.unusedVariables false
set_option maxRecDepth 100000
set_option maxHeartbeats 6400000
open Go.Proofs.Tryz
namespace Go.Proofs.YtpkkcicaeldodaaGreatDoor
section
open Go.RowKit Go.Maps
attribute [local go_sem] Oper.semAt_some
def WkOut (w w':World) (base lb k m c:Nat) (n:Nat) (J:Nat→World→Prop) (Jx:World→Prop) (e:Ending):Prop:=
 Chg (fun j=>j< base∨j=lb) w w'∧((e= .returned (.bool true)∧J (k+n) w'∧∃m':Nat,Blk w' lb 3 #[.int .i64 m']∧m≤m'+c∧m'≤m)∨(e= .returned (.bool false)∧Jx w'))
def Yld (W W':World) (base k:Nat) (J:Nat→World→Prop) (Jx:World→Prop) (e:Ending):Prop:=
 ∃b,e= .returned (.bool b)∧Chg (fun j=>j< base) W W'∧(b=true→J (k+1) W')∧(b=false→Jx W')
theorem yld_of {W W':World} {base k:Nat} {J:Nat→World→Prop} {Jx:World→Prop} {e:Ending} (h:Rounded (J (k+1)) Jx e W'∧Chg (fun j=>j< base) W W'):Yld W W' base k J Jx e:=by
 rcases h with ⟨⟨rfl,h1⟩ | ⟨rfl,h1⟩,h2⟩
 ·exact⟨true,rfl,h2,fun _=>h1,fun e=>by cases e⟩
 ·exact⟨false,rfl,h2,fun e=>by(cases e),fun _=>h1⟩
structure WkJ (w W:World) (base lb k0 m0 b q d:Nat) (nd:Nd) (N:Nat→Prop) (x:Rp) (from_:Int) (G M:List KV) (PM:List Nat) (J:Nat→World→Prop) (i:Nat) (L:List KV) (P:List Nat) (k m:Nat):Prop where
 j:J k W
 rest:Rest x.nd (halfN x.sz) d nd i L P
 cnt:k+(geL L from_).length=k0+(geL M from_).length
 told:∃T,G.drop k=geL L from_++T
 left:Blk W lb 3 #[.int .i64 m]
 pl:P.length≤m
 ml:m0+P.length≤m+PM.length
 mm:m≤m0
 srt:Srt L
 own:NdOwn W N b q nd
 nb:∀j,N j→base≤j∧j≠lb
 chg:Chg (fun j=>j< base∨j=lb) w W
theorem bwalk_any (base lb t p root y:Nat) (from_:Int) (F:Nat→Prop) (x:Rp) (G:List KV) (J:Nat→World→Prop) (Jx:World→Prop)
  (hF:∀j,F j→j< base) (hlb:base≤lb) (htb:t< base)
  (hin:∀k W,J k W→BT W t p root F x)
  (hst:∀k W W',J k W→Chg (fun j=>F j∨base≤j) W W'→BT W' t p root F x→J k W')
  (hyl:∀k a b W,J k W→G[k]? =some (a,b)→YieldAt Fence.wide 0 prog y #[.int .i64 a,.int .i64 b] W fun e W'=>Rounded (J (k+1)) Jx e W'∧Chg (fun j=>j< base) W W') :
  ∀ (d q:Nat) (M:List KV) (PM:List Nat) (k m:Nat) (w:World),Tr x.nd (halfN x.sz) d q M PM→Srt M→J k w→base≤w.heap.size→Blk w lb 3 #[.int .i64 m]→PM.length≤m→m≤65536→(∃T,G.drop k=geL M from_++T)→
   Calls prog 50 #[.pointer (some ⟨t,0,none⟩),.int .i64 q,.int .i64 from_,.pointer (some ⟨lb,0,none⟩),.func (.yield y) #[] #[]] w fun e w'=>WkOut w w' base lb k m PM.length (geL M from_).length J Jx e:=by
 have Hst:=yH (yA5 hF hlb htb hin (yA hst hyl));clear hF hlb htb hin hst hyl;intro d
 induction d using Nat.strongRecOn with
 | ind d ih=>
 intro q M PM k m w ht hs hj hb hlft hpm hm hG;obtain⟨m1,rfl⟩:∃m1,m=m1+1:=⟨m - 1,by have:=List.length_pos_of_mem ht.root_mem;omega⟩;obtain⟨nd,hnd, -⟩:=ht.node;obtain⟨cp,cp1,cp2,cp3⟩:=Rp.nd_some hnd;have hbt:=Hst.out.2.2.2.1 k w hj;have hft:=hbt.gp.fit hnd;have hkl:nd.keys.length≤300:=by have h1:=hft.1.most;have h2:=hbt.gp.szs;unfold mostN at h1;omega
 obtain⟨W1,hW1⟩:∃W,w.setCell ⟨lb,0,none⟩ (.int .i64 m1)=W:=⟨_,rfl⟩;have hc1:Chg (fun j=>j=lb) w W1:=hW1▸(Chg.refl (fun j=>j=lb) w).setCell (p:=⟨lb,0,none⟩) (fun _=>rfl) _
 have hl1:Blk W1 lb 3 #[.int .i64 m1]:=by
  have h9:=hlft.put 0 (.int .i64 m1);rw[hW1] at h9;simpa using h9
 have hpos:=tab_pos hbt.gp.tab;have hFb:=Hst.out.1;have hlb:=Hst.out.2.1;have htb:=Hst.out.2.2.1
 have hb0:0< base:=by
  have:=hbt.gp.zero;omega
 have hbt1:BT W1 t p root F x:=hbt.chg hc1 (fun j hj e=>by have:=hFb j hj;omega) (fun e=>by omega) (fun e=>by omega);have hj1:J k W1:=(yP4 Hst.out).1 k w W1 hj (hc1.mono fun j _ e=> .inr (by omega)) hbt1;have hld:=bload_any t p root q F x cp nd W1 hbt1 cp1 cp2 cp3;have hks:=ht.keys hnd hs;obtain⟨c0,f0,s0⟩:=hlft.facts
 have hce:w.cell? ⟨lb,0,none⟩=some (.int .i64 ((m1:Int)+1)):=by rw[c0];simp
 have hfe:=f0 0;have t0:decide ((m1:Int)< 0)=false:=decide_eq_false (by omega);have hm1:m1+1≤65536:=by omega
 have H:=yH (yA5 ht hs hG hpm (yA5 hb hnd hft hks (yA5 hld hj1 hl1 hc1 hW1)));have IH:=yH ih;clear ih ht hs hG hpm hb hnd hft hks hld hj1 hl1 hc1 hW1 hbt hbt1 hj hlft cp1 cp2 cp3 c0 f0 hpos hFb hlb htb hb0 hm
 (refine(callsIn_wide (n:=1)).1 (callsIn_of_wp func50 rfl trivial ?_ rfl);simp only[ntmps50,List.size_toArray,List.length_cons,List.length_nil,Nat.reduceAdd,Nat.reduceSub,Array.replicate_succ,Array.replicate_zero,List.push_toArray,List.append_toArray,List.nil_append,List.cons_append])
 gi_wp2_with fail
 rw[(yP12 H.out)];refine⟨trivial,(callsIn_wide.2 (yP8 H.out).1).mono ?_⟩;rintro e w2 ⟨b,N,rfl,hn2,hN2,hbt2,hc2⟩;have hFb:=Hst.out.1;have hlb:=Hst.out.2.1;have hl2:Blk w2 lb 3 #[.int .i64 m1]:=(yP10 H.out).1.chg hc2 fun e=>by have:=hFb _ e;omega
 have hj2:J k w2:=(yP4 Hst.out).1 k W1 w2 (yP8 H.out).2.1 (hc2.mono fun j _ e=> .inl e) hbt2;have hpl:=bplace_any b q nd N from_ w2 hn2.at (yP6 H.out).2.1 (by omega);obtain⟨ii,hii⟩:∃i,atI nd.keys from_=i:=⟨_,rfl⟩;obtain⟨fb,hfb⟩:∃f,nd.keys.contains from_=f:=⟨_,rfl⟩;rw[hii,hfb] at hpl;have hb1:=(yP10 H.out).2.1.size
 have hN3:∀j,N j→base≤j∧j≠lb:=fun j hj=>by
  have h1:=hN2 j hj;have h2:=(yP10 H.out).1.lt;have h3:=(yP4 H.out).1;omega
 obtain⟨A0,L0,P0,r1,r2,r3,r4,r5⟩:=Rest.start (k:=from_) H.out.1 (yP4 H.out).2.1 H.out.2.1;rw[hii] at r4 r5;have hgl:geL M from_=geL L0 from_:=by rw[r1,geL_app,geL_none r2];rfl
 obtain⟨T,hT⟩:=H.out.2.2.1;have hpm:=H.out.2.2.2.1;have hcc:Chg (fun j=>j< base∨j=lb) w w2:=Chg.trans ((yP10 H.out).2.1.mono fun j _ e=> .inr e) hc2 fun j _ e=> .inl (hFb j e);have hsL:Srt L0:=H.out.2.1.sub (by rw[r1];exact List.sublist_append_right _ _)
 have hJ2:WkJ w w2 base lb k (m1+1) b q d nd N x from_ G M PM J ii L0 P0 k m1:=⟨hj2,r4,by rw[hgl],⟨T,by rw[hT,hgl]⟩,hl2,by omega,by omega,by omega,hsL,hn2,hN3,hcc⟩;have hil:ii≤nd.keys.length:=hii▸atI_le _ _;obtain⟨c0,f0,s1⟩:=hl2.facts;have H2:=yH (yA4 hpl hJ2 r5 hbt2)
 clear hpl hJ2 hn2 hN2 hbt2 hc2 hl2 hj2 hii hfb hb1 hN3 r1 r2 r3 r4 r5 hgl hT hpm hcc hFb hlb hce hfe;gi_wp2_with fail
 refine⟨trivial,(callsIn_wide.2 H2.out.1).mono ?_⟩;rintro e w3 ⟨rfl,hg3⟩
 have hJ3:WkJ w w3 base lb k (m1+1) b q d nd N x from_ G M PM J ii L0 P0 k m1:=by
  have h:=H2.out.2.1;exact⟨(yP4 Hst.out).1 k w2 w3 h.j hg3.chg (H2.out.2.2.2.grew hg3),h.rest,h.cnt,h.told,h.left.grew hg3,h.pl,h.ml,h.mm,h.srt,h.own.grew hg3,h.nb,h.chg.grew hg3⟩
 have H3:=yH hJ3;clear hJ3 hg3 c0 f0 s1;gi_wp2_with fail
 gi_loopg [13] (nd.keys.length+1 - ii) (fun n iv wr=>∃ (i:Nat) (L':List KV) (P':List Nat) (k' m':Nat),n=nd.keys.length+1 - i∧ii≤i∧i≤nd.keys.length+1∧iv= .int .i64 i∧WkJ w wr base lb k (m1+1) b q d nd N x from_ G M PM J i L' P' k' m')
 case atStart=>exact⟨ii,L0,P0,k,m1,rfl,Nat.le_refl _,by omega,rfl,H3.out⟩
 case round=>
  obtain⟨i,L',P',k',m',rfl,hi1,hi2,rfl,hJ⟩:=hrel;have HJ:=yH hJ;obtain⟨Ak,ck,Av,cv,Ac,cc,bB,sK,sV,sC,nb,nk,nv',nc, -⟩:=hJ.own.at;obtain⟨c0,f0,s0⟩:=bB.facts;have hlf:=leaf_any b q nd N wr hJ.own.at;have hvl:=(yP6 H.out).1.1.vals;have HB:=yH (yA5 hlf bB sK sV (yA sC hvl));have HNb:=yH (yA4 nb nk nv' nc);clear hJ hlf bB sK sV sC hvl nb nk nv' nc
  by_cases hend:i≤nd.keys.length
  ·have t1:decide ((i:Int)≤(nd.keys.length:Int))=true:=decide_eq_true (by omega)
   have t1':decide (i≤nd.keys.length)=true:=decide_eq_true hend;by_cases h0:nd.kids.length=0
   ·have t2:decide (nd.kids.length=0)=true:=decide_eq_true h0
    obtain rfl:d=0:=by
     obtain⟨nd',g1, -, -,g2⟩:=H.out.1.node;rw[(yP4 H.out).2.1] at g1
     cases g1
     exact g2.1 h0
    by_cases hlt:i< nd.keys.length
    ·obtain⟨a,v,L2,ha,hv,hmem,hL2,hrest2⟩:=HJ.out.rest.leaf (yP4 HB.out).2 hlt
     have hfa:from_≤a:=H2.out.2.2.1 (a,v) (List.mem_of_mem_drop (i:=i - ii) (by rw[List.drop_drop,show ii+(i - ii)=i by omega];exact hmem));have hgl:geL L' from_=(a,v) :: geL L2 from_:=by rw[hL2];exact geL_cons hfa
     obtain⟨T,hT⟩:=HJ.out.told;rw[hgl] at hT;obtain⟨hG1,hG2⟩:=drop_cons' hT;obtain⟨gk,ok,rfl,hgkl,hxk⟩:=HB.out.2.2.1.2 (by omega);obtain⟨gv,ov,rfl,hgvl,hxv⟩:=HB.out.2.2.2.1.2 (by have:=(yP4 HB.out).2;omega);have hck:wr.drew.cell? ⟨gk,ok+i,none⟩=some (.int .i64 a):=hxk i _ (by simp[iv,ha])
     have hcv:wr.drew.cell? ⟨gv,ov+i,none⟩=some (.int .i64 v):=hxv i _ (by simp[iv,hv]);have hlv:i< nd.vals.length:=(List.getElem?_eq_some_iff.1 hv).1;have hjd:J k' wr.drew:=(yP4 Hst.out).1 k' wr wr.drew HJ.out.j ((Chg.refl _ _).drew) ((Hst.out.2.2.2.1 k' wr HJ.out.j).grew ((Chg.refl NoF wr).drew))
     obtain⟨fn,tmps,assign,body,hy,hR⟩:=((yP4 Hst.out).2 k' a v wr.drew hjd hG1);have hR2:=RoundIn.mono hR fun e W' h=>(yld_of h:Yld wr.drew W' base k' J Jx e);have HR:=yH hR2;have t3:decide ((i:Int)< (nd.keys.length:Int))=true:=decide_eq_true (by omega);have t3':decide (i< nd.keys.length)=true:=decide_eq_true hlt
     have hs2:Srt L2:=HJ.out.srt.sub (by rw[hL2];exact List.sublist_cons_self _ _);have HG:=yH (yA4 hrest2 hgl (show∃T,G.drop (k'+1)=geL L2 from_++T from⟨T,hG2⟩) hs2)
     have HSr:=yH (show wr.drew.cell? ⟨b,1,none⟩=some (.slice (some ⟨gk,ok,none⟩) nd.keys.length ck)∧wr.drew.cell? ⟨b,2,none⟩=some (.slice (some ⟨gv,ov,none⟩) nd.vals.length cv)∧wr.drew.cell? ⟨gk,ok+i,none⟩=some (.int .i64 a)∧wr.drew.cell? ⟨gv,ov+i,none⟩=some (.int .i64 v) from⟨c0 1,c0 2,hck,hcv⟩)
     have HLt:=yH (show b< wr.drew.heap.size∧gk< wr.drew.heap.size∧gv< wr.drew.heap.size∧base≤b∧base≤gk∧base≤gv from⟨s0,hgkl,hgvl,(HJ.out.nb _ HNb.out.1).1,(HJ.out.nb _ (HNb.out.2.1 _ rfl)).1,(HJ.out.nb _ (HNb.out.2.2.1 _ rfl)).1⟩);clear hR hR2 hrest2 hgl hG1 hG2 hT hjd hxk hxv hmem ha hv hL2 hfa hgkl hgvl hck hcv hs2
     gi_wp2_with (refine⟨trivial,?_⟩;gi_at_call 41;refine(callsIn_wide.2 HB.out.1).mono ?_;rintro e w5 ⟨rfl,rfl⟩)
     refine⟨trivial,?_⟩;gi_wp2_with fail
     have hS:wr.drew.cell? ⟨b,1,none⟩=some (.slice (some ⟨gk,ok,none⟩) nd.keys.length ck)∧wr.drew.cell? ⟨b,2,none⟩=some (.slice (some ⟨gv,ov,none⟩) nd.vals.length cv)∧wr.drew.cell? ⟨gk,ok+i,none⟩=some (.int .i64 a)∧wr.drew.cell? ⟨gv,ov+i,none⟩=some (.int .i64 v):=HSr.out
     refine wpIn_region_inH (S:=fun w'=>w'.cell? ⟨b,1,none⟩=some (.slice (some ⟨gk,ok,none⟩) nd.keys.length ck)∧w'.cell? ⟨b,2,none⟩=some (.slice (some ⟨gv,ov,none⟩) nd.vals.length cv)∧w'.cell? ⟨gk,ok+i,none⟩=some (.int .i64 a)∧w'.cell? ⟨gv,ov+i,none⟩=some (.int .i64 v)) (by kernel_rfl) hS (fun hHeld=>?_)
     refine Todo.out (is:=[0,1,2,3,4,5,6,7,8,9,10,11,12,13,14,15,16,17,18,19,20,21,22]) ?_
     repeat
      refine tkF (v:=?_) rfl ⟨Or.inl ⟨by rfl,?_⟩,fun _=>rfl⟩ hHeld ?_;rotate_left
      ·(intro w hSw;(try dsimp only at hSw);go_simp)<;>with_reducible rfl
      (try simp only[Act.put,lZ])
     refine Todo.fin ?_;refine rdF (i:=23) (by kernel_rfl) rfl fun K hK=>?_;go_simp;refine HR.out.mono ?_;rintro e w6 ⟨bb,rfl,hc6,hj6,hx6⟩
     have hS6:w6.cell? ⟨b,1,none⟩=some (.slice (some ⟨gk,ok,none⟩) nd.keys.length ck)∧w6.cell? ⟨b,2,none⟩=some (.slice (some ⟨gv,ov,none⟩) nd.vals.length cv)∧w6.cell? ⟨gk,ok+i,none⟩=some (.int .i64 a)∧w6.cell? ⟨gv,ov+i,none⟩=some (.int .i64 v):=by
      obtain⟨l1,l2,l3,g1,g2,g3⟩:=HLt.out
      exact⟨(hc6.cell (p:=⟨b,1,none⟩) l1 (fun e=>Nat.lt_irrefl _ (Nat.lt_of_lt_of_le e g1))).trans hS.1,(hc6.cell (p:=⟨b,2,none⟩) l1 (fun e=>Nat.lt_irrefl _ (Nat.lt_of_lt_of_le e g1))).trans hS.2.1,(hc6.cell (p:=⟨gk,ok+i,none⟩) l2 (fun e=>Nat.lt_irrefl _ (Nat.lt_of_lt_of_le e g2))).trans hS.2.2.1,(hc6.cell (p:=⟨gv,ov+i,none⟩) l3 (fun e=>Nat.lt_irrefl _ (Nat.lt_of_lt_of_le e g3))).trans hS.2.2.2⟩
     have H6:=yH (yA3 hc6 hj6 hx6);clear hc6 hj6 hx6;refine hK _ _ hS6 ?_;clear hK K;(try simp only[Act.put,lZ])
     refine Todo.out (is:=[24,25]) ?_
     repeat
      refine tkF (v:=?_) rfl ⟨Or.inl ⟨by rfl,?_⟩,fun _=>rfl⟩ hS6 ?_;rotate_left
      ·(intro w hSw;(try dsimp only at hSw);go_simp)<;>with_reducible rfl
      (try simp only[Act.put,lZ])
     refine Todo.fin ?_;refine wpAnyInH_done (by kernel_rfl) ?_ _;clear hHeld hS hS6
     cases bb with
     | true=>
      gi_wp2_with fail
      gi_roundg (nd.keys.length+1 - (i+1))
      case measure=>omega
      case rel=>
       have h:=HJ.out;obtain⟨hrest2,hgl,hT,hs2⟩:=HG.out;obtain⟨hc6,hj6, -⟩:=H6.out;replace hc6:=Grew.then ((Chg.refl NoF wr).drew) hc6;have hlb:=Hst.out.2.1
       exact⟨i+1,L2,P',k'+1,m',rfl,by omega,by omega,by simp,hj6 (by simp),hrest2,by have:=h.cnt;rw[hgl,List.length_cons] at this;omega,hT,(h.left.chg hc6 (fun e=>Nat.lt_irrefl _ (Nat.lt_of_lt_of_le e hlb)):Blk w6 lb 3 #[.int .i64 m']),h.pl,h.ml,h.mm,hs2,h.own.chg hc6 (fun j hj e=>Nat.lt_irrefl _ (Nat.lt_of_lt_of_le e (h.nb j hj).1)),h.nb,Chg.trans h.chg hc6 fun j _ e=> .inl e⟩
     | false=>
      gi_wp2_with fail
      go_ret
      exact⟨Chg.trans HJ.out.chg ((Grew.then ((Chg.refl NoF wr).drew) H6.out.1).mono fun j _ e=>Or.inl e) fun j _ e=>e,.inr ⟨rfl,H6.out.2.2 (by simp)⟩⟩
    ·obtain rfl:i=nd.keys.length:=by omega
     obtain⟨hL0,hrest2⟩:=HJ.out.rest.leaf_end (yP4 HB.out).2;have t3:decide ((nd.keys.length:Int)< (nd.keys.length:Int))=false:=decide_eq_false (by omega);have t3':decide (nd.keys.length< nd.keys.length)=false:=decide_eq_false (by omega);have HG:=yH (yA hL0 hrest2);have hSq:wr.drew.cell? ⟨b,1,none⟩=some (.slice Ak nd.keys.length ck):=c0 1;have HSq:=yH hSq
     clear hL0 hrest2 hSq;gi_wp2_with (refine⟨trivial,?_⟩;gi_at_call 41;refine(callsIn_wide.2 HB.out.1).mono ?_;rintro e w5 ⟨rfl,rfl⟩)
     refine⟨trivial,?_⟩;gi_wp2_with fail
     have hSq:=HSq.out;refine wpIn_region_inH (S:=fun w'=>w'.cell? ⟨b,1,none⟩=some (.slice Ak nd.keys.length ck)) (by kernel_rfl) hSq (fun hHeld=>?_);refine Todo.out (is:=[0,1,2,3,4,5,6,7]) ?_
     repeat
      refine tkF (v:=?_) rfl ⟨Or.inl ⟨by rfl,?_⟩,fun _=>rfl⟩ hHeld ?_;rotate_left
      ·(intro w hSw;(try dsimp only at hSw);go_simp)<;>with_reducible rfl
      (try simp only[Act.put,lZ])
     refine Todo.fin ?_;refine tkF1 (i:=8) (v:=undef) rfl ⟨Or.inr ⟨by rfl,rfl⟩,fun _=>rfl⟩ hHeld ?_;(try simp only[Act.put,lZ])
     refine tkF1 (i:=9) (v:=undef) rfl ⟨Or.inr ⟨by rfl,rfl⟩,fun _=>rfl⟩ hHeld ?_;(try simp only[Act.put,lZ])
     refine tkF1 (i:=10) (v:=undef) rfl ⟨Or.inr ⟨by rfl,rfl⟩,fun _=>rfl⟩ hHeld ?_;(try simp only[Act.put,lZ])
     refine tkF1 (i:=11) (v:=undef) rfl ⟨Or.inr ⟨by rfl,rfl⟩,fun _=>rfl⟩ hHeld ?_;(try simp only[Act.put,lZ])
     refine tkF1 (i:=12) (v:=undef) rfl ⟨Or.inr ⟨by rfl,rfl⟩,fun _=>rfl⟩ hHeld ?_;(try simp only[Act.put,lZ])
     refine tkF1 (i:=13) (v:=undef) rfl ⟨Or.inr ⟨by rfl,rfl⟩,fun _=>rfl⟩ hHeld ?_;(try simp only[Act.put,lZ])
     refine tkF1 (i:=14) (v:=undef) rfl ⟨Or.inr ⟨by rfl,rfl⟩,fun _=>rfl⟩ hHeld ?_;(try simp only[Act.put,lZ])
     refine tkF1 (i:=15) (v:=undef) rfl ⟨Or.inr ⟨by rfl,rfl⟩,fun _=>rfl⟩ hHeld ?_;(try simp only[Act.put,lZ])
     refine tkF1 (i:=16) (v:=undef) rfl ⟨Or.inr ⟨by rfl,rfl⟩,fun _=>rfl⟩ hHeld ?_;(try simp only[Act.put,lZ])
     refine tkF1 (i:=17) (v:=undef) rfl ⟨Or.inr ⟨by rfl,rfl⟩,fun _=>rfl⟩ hHeld ?_;(try simp only[Act.put,lZ])
     refine tkF1 (i:=18) (v:=undef) rfl ⟨Or.inr ⟨by rfl,rfl⟩,fun _=>rfl⟩ hHeld ?_;(try simp only[Act.put,lZ])
     refine tkF1 (i:=19) (v:=undef) rfl ⟨Or.inr ⟨by rfl,rfl⟩,fun _=>rfl⟩ hHeld ?_;(try simp only[Act.put,lZ])
     refine tkF1 (i:=20) (v:=undef) rfl ⟨Or.inr ⟨by rfl,rfl⟩,fun _=>rfl⟩ hHeld ?_;(try simp only[Act.put,lZ])
     refine tkF1 (i:=21) (v:=undef) rfl ⟨Or.inr ⟨by rfl,rfl⟩,fun _=>rfl⟩ hHeld ?_;(try simp only[Act.put,lZ])
     refine tkF1 (i:=22) (v:=undef) rfl ⟨Or.inr ⟨by rfl,rfl⟩,fun _=>rfl⟩ hHeld ?_;(try simp only[Act.put,lZ])
     refine rdF (i:=23) (by kernel_rfl) rfl fun K hK=>?_;go_simp;refine⟨fun _ h=>(by cases h),?_⟩;refine hK _ _ hHeld ?_;clear hK K;(try simp only[Act.put,lZ])
     refine tkF1 (i:=24) (v:=undef) rfl ⟨Or.inr ⟨by rfl,rfl⟩,fun _=>rfl⟩ hHeld ?_;(try simp only[Act.put,lZ])
     refine tkF1 (i:=25) (v:=?_) rfl ⟨Or.inl ⟨by rfl,?_⟩,fun _=>rfl⟩ hHeld ?_;rotate_left
     ·(intro w hSw;(try dsimp only at hSw);go_simp)<;>with_reducible rfl
     (try simp only[Act.put,lZ])
     refine wpAnyInH_done (by kernel_rfl) ?_ _;clear hHeld hSq;gi_wp2_with fail
     gi_roundg (nd.keys.length+1 - (nd.keys.length+1))
     case measure=>omega
     case rel=>
      have h:=HJ.out;obtain⟨rfl,hrest2⟩:=HG.out;have hgd:Grew wr wr.drew:=(Chg.refl NoF wr).drew
      exact⟨nd.keys.length+1,[],[],k',m',rfl,by omega,by omega,by simp,(yP4 Hst.out).1 k' wr _ h.j hgd.chg ((Hst.out.2.2.2.1 k' wr h.j).grew hgd),hrest2,h.cnt,h.told,h.left.grew hgd,Nat.zero_le _,by have:=h.ml;simp only[List.length_nil];omega,h.mm,List.Pairwise.nil,h.own.grew hgd,h.nb,h.chg.grew hgd⟩
   ·have t2:decide (nd.kids.length=0)=false:=decide_eq_false h0
    have t2':decide (nd.kids=[])=false:=decide_eq_false fun e=>h0 (by rw[e];rfl)
    obtain⟨d',rfl⟩:∃d',d=d'+1:=⟨d - 1,by
     obtain⟨nd',g1, -, -,g2⟩:=H.out.1.node;rw[(yP4 H.out).2.1] at g1
     cases g1
     have hd0:d≠0:=fun e=>h0 (g2.2 e);omega⟩
    have hcl:nd.kids.length=nd.keys.length+1:=(yP6 H.out).1.1.kids.resolve_left h0;by_cases hlt:i< nd.keys.length
    ·obtain⟨c,M1,Q,a,v,L2,P2,hci,hTc,ha,hv,hmem,hL2,hP2,hrest2⟩:=HJ.out.rest.inner (yP4 HB.out).2 hcl hlt
     have hfa:from_≤a:=H2.out.2.2.1 (a,v) (List.mem_of_mem_drop (i:=i - ii) (by rw[List.drop_drop,show ii+(i - ii)=i by omega];exact hmem));have hgl:geL L' from_=geL M1 from_++(a,v) :: geL L2 from_:=by rw[hL2,geL_app,geL_cons hfa]
     obtain⟨T,hT⟩:=HJ.out.told;rw[hgl] at hT;have hT1:G.drop k'=geL M1 from_++((a,v) :: geL L2 from_++T):=by rw[hT];simp
     have hT2:=drop_app hT1;obtain⟨hG1,hG2⟩:=drop_cons' hT2;have hsM:Srt M1:=HJ.out.srt.sub (by rw[hL2];exact List.sublist_append_left _ _);have hs2:Srt L2:=HJ.out.srt.sub (by rw[hL2];exact(List.sublist_cons_self _ _).trans (List.sublist_append_right _ _))
     have hrec:=IH.out d' (by omega) c M1 Q k' m' wr hTc.1 hsM HJ.out.j (by have:=HJ.out.chg.size;have:=(yP4 H.out).1;omega) HJ.out.left (by have:=HJ.out.pl;rw[hP2,List.length_append] at this;omega) (by have:=HJ.out.mm;omega) ⟨_,hT1⟩;obtain⟨gc,oc,rfl,hgcl,hxc⟩:=(yP4 HB.out).1.2 (by omega)
     have hcc:wr.cell? ⟨gc,oc+i,none⟩=some (.int .i64 c):=hxc i _ (by simp[nv,hci]);have hil:i< nd.kids.length:=by omega
     have HG:=yH (yA5 hrest2 hgl (show∃T,G.drop (k'+(geL M1 from_).length+1)=geL L2 from_++T from⟨T,hG2⟩) hs2 (yA5 hP2 hG1 hrec ha hv));have HCl:=yH hcl;clear hrest2 hgl hG1 hG2 hT hT1 hT2 hs2 hsM hrec hmem hci hTc ha hv hfa hxc hgcl hL2 hP2 hcl h0;gi_wp2_with (refine⟨trivial,?_⟩;gi_at_call 41;refine(callsIn_wide.2 HB.out.1).mono ?_;rintro e w5 ⟨rfl,rfl⟩)
     refine⟨trivial,(callsIn_wide.2 (yP6 HG.out).1).mono ?_⟩;clear c0 f0 s0 hcc;rintro e w5 ⟨hc5,(⟨rfl,hj5,m2,hl5,hm5,hm5'⟩ | ⟨rfl,hx5⟩)⟩;rotate_left
     ·have HX:=yH (yA hc5 hx5)
      clear hc5 hx5;gi_wp2_with fail
      go_ret
      exact⟨Chg.trans HJ.out.chg HX.out.1 fun j _ e=>e,.inr ⟨rfl,HX.out.2⟩⟩
     have hN5:∀j,N j→¬ (j< base∨j=lb):=fun j hj e=>by have:=HJ.out.nb j hj;omega
     have hn5:=HJ.out.own.chg hc5 hN5;obtain⟨gk,ok,rfl,hgkl,hxk⟩:=HB.out.2.2.1.2 (by omega);obtain⟨gv,ov,rfl,hgvl,hxv⟩:=HB.out.2.2.2.1.2 (by have:=(yP4 HB.out).2;omega);have hck:w5.drew.cell? ⟨gk,ok+i,none⟩=some (.int .i64 a):=(hc5.cell (p:=⟨gk,ok+i,none⟩) hgkl (hN5 _ (HNb.out.2.1 ⟨gk,ok,none⟩ rfl))).trans (hxk i _ (by simp[iv,(yP6 HG.out).2.1]))
     have hcv:w5.drew.cell? ⟨gv,ov+i,none⟩=some (.int .i64 v):=(hc5.cell (p:=⟨gv,ov+i,none⟩) hgvl (hN5 _ (HNb.out.2.2.1 ⟨gv,ov,none⟩ rfl))).trans (hxv i _ (by simp[iv,(yP8 HG.out)]));have hlv:i< nd.vals.length:=(List.getElem?_eq_some_iff.1 (yP8 HG.out)).1;have hb5:=HB.out.2.1.chg hc5 (hN5 _ HNb.out.1);have hbt5:=Hst.out.2.2.2.1 _ w5 hj5
     have hjd:J (k'+(geL M1 from_).length) w5.drew:=(yP4 Hst.out).1 _ w5 w5.drew hj5 ((Chg.refl _ _).drew) (hbt5.grew ((Chg.refl NoF w5).drew));obtain⟨fn,tmps,assign,body,hy,hR⟩:=((yP4 Hst.out).2 _ a v w5.drew hjd (yP4 HG.out).2.1);have hR2:=RoundIn.mono hR fun e W' h=>(yld_of h:Yld w5.drew W' base (k'+(geL M1 from_).length) J Jx e);have HR:=yH hR2
     have t3:decide ((i:Int)< (nd.keys.length:Int))=true:=decide_eq_true (by omega);have t3':decide (i< nd.keys.length)=true:=decide_eq_true hlt
     have HSr:=yH (show w5.drew.cell? ⟨b,1,none⟩=some (.slice (some ⟨gk,ok,none⟩) nd.keys.length ck)∧w5.drew.cell? ⟨b,2,none⟩=some (.slice (some ⟨gv,ov,none⟩) nd.vals.length cv)∧w5.drew.cell? ⟨gk,ok+i,none⟩=some (.int .i64 a)∧w5.drew.cell? ⟨gv,ov+i,none⟩=some (.int .i64 v) from⟨hb5.drew.cell 1,hb5.drew.cell 2,hck,hcv⟩);have hsz5:=hc5.size
     have HLt:=yH (show b< w5.drew.heap.size∧gk< w5.drew.heap.size∧gv< w5.drew.heap.size∧base≤b∧base≤gk∧base≤gv from⟨hb5.lt,Nat.lt_of_lt_of_le hgkl hsz5,Nat.lt_of_lt_of_le hgvl hsz5,(HJ.out.nb _ HNb.out.1).1,(HJ.out.nb _ (HNb.out.2.1 _ rfl)).1,(HJ.out.nb _ (HNb.out.2.2.1 _ rfl)).1⟩);have H5:=yH (yA5 hc5 hl5 hm5 hm5' hn5)
     clear hR hR2 hjd hxk hxv hgkl hgvl hck hcv hb5 hbt5 hsz5 hc5 hl5 hm5 hm5' hn5 hN5 hj5;gi_wp2_with fail
     have hS:w5.drew.cell? ⟨b,1,none⟩=some (.slice (some ⟨gk,ok,none⟩) nd.keys.length ck)∧w5.drew.cell? ⟨b,2,none⟩=some (.slice (some ⟨gv,ov,none⟩) nd.vals.length cv)∧w5.drew.cell? ⟨gk,ok+i,none⟩=some (.int .i64 a)∧w5.drew.cell? ⟨gv,ov+i,none⟩=some (.int .i64 v):=HSr.out
     refine wpIn_region_inH (S:=fun w'=>w'.cell? ⟨b,1,none⟩=some (.slice (some ⟨gk,ok,none⟩) nd.keys.length ck)∧w'.cell? ⟨b,2,none⟩=some (.slice (some ⟨gv,ov,none⟩) nd.vals.length cv)∧w'.cell? ⟨gk,ok+i,none⟩=some (.int .i64 a)∧w'.cell? ⟨gv,ov+i,none⟩=some (.int .i64 v)) (by kernel_rfl) hS (fun hHeld=>?_)
     refine Todo.out (is:=[0,1,2,3,4,5,6,7,8,9,10,11,12,13,14,15,16,17,18,19,20,21,22]) ?_
     repeat
      refine tkF (v:=?_) rfl ⟨Or.inl ⟨by rfl,?_⟩,fun _=>rfl⟩ hHeld ?_;rotate_left
      ·(intro w hSw;(try dsimp only at hSw);go_simp)<;>with_reducible rfl
      (try simp only[Act.put,lZ])
     refine Todo.fin ?_;refine rdF (i:=23) (by kernel_rfl) rfl fun K hK=>?_;go_simp;refine HR.out.mono ?_;rintro e w6 ⟨bb,rfl,hc6,hj6,hx6⟩
     have hS6:w6.cell? ⟨b,1,none⟩=some (.slice (some ⟨gk,ok,none⟩) nd.keys.length ck)∧w6.cell? ⟨b,2,none⟩=some (.slice (some ⟨gv,ov,none⟩) nd.vals.length cv)∧w6.cell? ⟨gk,ok+i,none⟩=some (.int .i64 a)∧w6.cell? ⟨gv,ov+i,none⟩=some (.int .i64 v):=by
      obtain⟨l1,l2,l3,g1,g2,g3⟩:=HLt.out
      exact⟨(hc6.cell (p:=⟨b,1,none⟩) l1 (fun e=>Nat.lt_irrefl _ (Nat.lt_of_lt_of_le e g1))).trans hS.1,(hc6.cell (p:=⟨b,2,none⟩) l1 (fun e=>Nat.lt_irrefl _ (Nat.lt_of_lt_of_le e g1))).trans hS.2.1,(hc6.cell (p:=⟨gk,ok+i,none⟩) l2 (fun e=>Nat.lt_irrefl _ (Nat.lt_of_lt_of_le e g2))).trans hS.2.2.1,(hc6.cell (p:=⟨gv,ov+i,none⟩) l3 (fun e=>Nat.lt_irrefl _ (Nat.lt_of_lt_of_le e g3))).trans hS.2.2.2⟩
     have H6:=yH (yA3 hc6 hj6 hx6);clear hc6 hj6 hx6;refine hK _ _ hS6 ?_;clear hK K;(try simp only[Act.put,lZ])
     refine Todo.out (is:=[24,25]) ?_
     repeat
      refine tkF (v:=?_) rfl ⟨Or.inl ⟨by rfl,?_⟩,fun _=>rfl⟩ hS6 ?_;rotate_left
      ·(intro w hSw;(try dsimp only at hSw);go_simp)<;>with_reducible rfl
      (try simp only[Act.put,lZ])
     refine Todo.fin ?_;refine wpAnyInH_done (by kernel_rfl) ?_ _;clear hHeld hS hS6
     cases bb with
     | true=>
      gi_wp2_with fail
      gi_roundg (nd.keys.length+1 - (i+1))
      case measure=>omega
      case rel=>
       have h:=HJ.out;obtain⟨hrest2,hgl,hT,hs2,hP2, -⟩:=HG.out;obtain⟨hc6,hj6, -⟩:=H6.out;replace hc6:=Grew.then ((Chg.refl NoF w5).drew) hc6;obtain⟨hc5,hl5,hm5,hm5',hn5⟩:=H5.out;have hlb:=Hst.out.2.1;have hpl:=h.pl;have hml:=h.ml;rw[hP2,List.length_append] at hpl hml
       exact⟨i+1,L2,P2,k'+(geL M1 from_).length+1,m2,rfl,by omega,by omega,by simp,hj6 (by simp),hrest2,by have:=h.cnt;rw[hgl,List.length_append,List.length_cons] at this;omega,hT,(hl5.chg hc6 (fun e=>Nat.lt_irrefl _ (Nat.lt_of_lt_of_le e hlb)):Blk w6 lb 3 #[.int .i64 m2]),by omega,by omega,by have:=h.mm;omega,hs2,hn5.chg hc6 (fun j hj e=>Nat.lt_irrefl _ (Nat.lt_of_lt_of_le e (h.nb j hj).1)),h.nb,Chg.trans (Chg.trans h.chg hc5 fun j _ e=>e) hc6 fun j _ e=> .inl e⟩
     | false=>
      gi_wp2_with fail
      go_ret
      exact⟨Chg.trans (Chg.trans HJ.out.chg H5.out.1 fun j _ e=>e) ((Grew.then ((Chg.refl NoF w5).drew) H6.out.1).mono fun j _ e=>Or.inl e) fun j _ e=>e,.inr ⟨rfl,H6.out.2.2 (by simp)⟩⟩
    ·obtain rfl:i=nd.keys.length:=by omega
     obtain⟨c,hci,hTc,hrest2⟩:=HJ.out.rest.inner_end (yP4 HB.out).2 hcl;obtain⟨T,hT⟩:=HJ.out.told;have hT2:=drop_app hT;have hrec:=IH.out d' (by omega) c L' P' k' m' wr hTc.1 HJ.out.srt HJ.out.j (by have:=HJ.out.chg.size;have:=(yP4 H.out).1;omega) HJ.out.left HJ.out.pl (by have:=HJ.out.mm;omega) ⟨_,hT⟩;obtain⟨gc,oc,rfl,hgcl,hxc⟩:=(yP4 HB.out).1.2 (by omega)
     have hcc:wr.cell? ⟨gc,oc+nd.keys.length,none⟩=some (.int .i64 c):=hxc _ _ (by simp[nv,hci]);have hil:nd.keys.length< nd.kids.length:=by omega
     have t3:decide ((nd.keys.length:Int)< (nd.keys.length:Int))=false:=decide_eq_false (by omega);have t3':decide (nd.keys.length< nd.keys.length)=false:=decide_eq_false (by omega);have HG:=yH (yA3 hrest2 (show∃T,G.drop (k'+(geL L' from_).length)=T from⟨T,hT2⟩) hrec);have HCl:=yH hcl;clear hrest2 hT hT2 hrec hci hTc hxc hgcl hcl h0
     gi_wp2_with (refine⟨trivial,?_⟩;gi_at_call 41;refine(callsIn_wide.2 HB.out.1).mono ?_;rintro e w5 ⟨rfl,rfl⟩)
     refine⟨trivial,(callsIn_wide.2 HG.out.2.2).mono ?_⟩;clear c0 f0 s0 hcc;rintro e w5 ⟨hc5,(⟨rfl,hj5,m2,hl5,hm5,hm5'⟩ | ⟨rfl,hx5⟩)⟩;rotate_left
     ·have HX:=yH (yA hc5 hx5)
      clear hc5 hx5;gi_wp2_with fail
      go_ret
      exact⟨Chg.trans HJ.out.chg HX.out.1 fun j _ e=>e,.inr ⟨rfl,HX.out.2⟩⟩
     have hN5:∀j,N j→¬ (j< base∨j=lb):=fun j hj e=>by have:=HJ.out.nb j hj;omega
     have hn5:=HJ.out.own.chg hc5 hN5;have hb5:=HB.out.2.1.chg hc5 (hN5 _ HNb.out.1);have hSq:w5.drew.cell? ⟨b,1,none⟩=some (.slice Ak nd.keys.length ck):=hb5.drew.cell 1;have HSq:=yH hSq;have H5:=yH (yA5 hc5 hl5 hm5 hm5' (yA hn5 hj5));clear hb5 hc5 hl5 hm5 hm5' hn5 hN5 hj5 hSq;gi_wp2_with fail
     have hSq:=HSq.out;refine wpIn_region_inH (S:=fun w'=>w'.cell? ⟨b,1,none⟩=some (.slice Ak nd.keys.length ck)) (by kernel_rfl) hSq (fun hHeld=>?_);refine Todo.out (is:=[0,1,2,3,4,5,6,7]) ?_
     repeat
      refine tkF (v:=?_) rfl ⟨Or.inl ⟨by rfl,?_⟩,fun _=>rfl⟩ hHeld ?_;rotate_left
      ·(intro w hSw;(try dsimp only at hSw);go_simp)<;>with_reducible rfl
      (try simp only[Act.put,lZ])
     refine Todo.fin ?_;refine tkF1 (i:=8) (v:=undef) rfl ⟨Or.inr ⟨by rfl,rfl⟩,fun _=>rfl⟩ hHeld ?_;(try simp only[Act.put,lZ])
     refine tkF1 (i:=9) (v:=undef) rfl ⟨Or.inr ⟨by rfl,rfl⟩,fun _=>rfl⟩ hHeld ?_;(try simp only[Act.put,lZ])
     refine tkF1 (i:=10) (v:=undef) rfl ⟨Or.inr ⟨by rfl,rfl⟩,fun _=>rfl⟩ hHeld ?_;(try simp only[Act.put,lZ])
     refine tkF1 (i:=11) (v:=undef) rfl ⟨Or.inr ⟨by rfl,rfl⟩,fun _=>rfl⟩ hHeld ?_;(try simp only[Act.put,lZ])
     refine tkF1 (i:=12) (v:=undef) rfl ⟨Or.inr ⟨by rfl,rfl⟩,fun _=>rfl⟩ hHeld ?_;(try simp only[Act.put,lZ])
     refine tkF1 (i:=13) (v:=undef) rfl ⟨Or.inr ⟨by rfl,rfl⟩,fun _=>rfl⟩ hHeld ?_;(try simp only[Act.put,lZ])
     refine tkF1 (i:=14) (v:=undef) rfl ⟨Or.inr ⟨by rfl,rfl⟩,fun _=>rfl⟩ hHeld ?_;(try simp only[Act.put,lZ])
     refine tkF1 (i:=15) (v:=undef) rfl ⟨Or.inr ⟨by rfl,rfl⟩,fun _=>rfl⟩ hHeld ?_;(try simp only[Act.put,lZ])
     refine tkF1 (i:=16) (v:=undef) rfl ⟨Or.inr ⟨by rfl,rfl⟩,fun _=>rfl⟩ hHeld ?_;(try simp only[Act.put,lZ])
     refine tkF1 (i:=17) (v:=undef) rfl ⟨Or.inr ⟨by rfl,rfl⟩,fun _=>rfl⟩ hHeld ?_;(try simp only[Act.put,lZ])
     refine tkF1 (i:=18) (v:=undef) rfl ⟨Or.inr ⟨by rfl,rfl⟩,fun _=>rfl⟩ hHeld ?_;(try simp only[Act.put,lZ])
     refine tkF1 (i:=19) (v:=undef) rfl ⟨Or.inr ⟨by rfl,rfl⟩,fun _=>rfl⟩ hHeld ?_;(try simp only[Act.put,lZ])
     refine tkF1 (i:=20) (v:=undef) rfl ⟨Or.inr ⟨by rfl,rfl⟩,fun _=>rfl⟩ hHeld ?_;(try simp only[Act.put,lZ])
     refine tkF1 (i:=21) (v:=undef) rfl ⟨Or.inr ⟨by rfl,rfl⟩,fun _=>rfl⟩ hHeld ?_;(try simp only[Act.put,lZ])
     refine tkF1 (i:=22) (v:=undef) rfl ⟨Or.inr ⟨by rfl,rfl⟩,fun _=>rfl⟩ hHeld ?_;(try simp only[Act.put,lZ])
     refine rdF (i:=23) (by kernel_rfl) rfl fun K hK=>?_;go_simp;refine⟨fun _ h=>(by cases h),?_⟩;refine hK _ _ hHeld ?_;clear hK K;(try simp only[Act.put,lZ])
     refine tkF1 (i:=24) (v:=undef) rfl ⟨Or.inr ⟨by rfl,rfl⟩,fun _=>rfl⟩ hHeld ?_;(try simp only[Act.put,lZ])
     refine tkF1 (i:=25) (v:=?_) rfl ⟨Or.inl ⟨by rfl,?_⟩,fun _=>rfl⟩ hHeld ?_;rotate_left
     ·(intro w hSw;(try dsimp only at hSw);go_simp)<;>with_reducible rfl
     (try simp only[Act.put,lZ])
     refine wpAnyInH_done (by kernel_rfl) ?_ _;clear hHeld hSq;gi_wp2_with fail
     gi_roundg (nd.keys.length+1 - (nd.keys.length+1))
     case measure=>omega
     case rel=>
      have h:=HJ.out;obtain⟨hrest2,⟨T,hT2⟩, -⟩:=HG.out;obtain⟨hc5,hl5,hm5,hm5',hn5,hj5⟩:=H5.out;have hgd:Grew w5 w5.drew:=(Chg.refl NoF w5).drew
      exact⟨nd.keys.length+1,[],[],k'+(geL L' from_).length,m2,rfl,by omega,by omega,by simp,(yP4 Hst.out).1 _ w5 _ hj5 hgd.chg ((Hst.out.2.2.2.1 _ w5 hj5).grew hgd),hrest2,by have:=h.cnt;simp only[geL,List.filter_nil,List.length_nil];exact this,⟨T,by rw[hT2];rfl⟩,hl5.grew hgd,Nat.zero_le _,by have:=h.ml;simp only[List.length_nil];omega,by have:=h.mm;omega,List.Pairwise.nil,hn5.grew hgd,h.nb,(Chg.trans h.chg hc5 fun j _ e=>e).grew hgd⟩
  ·have t1:decide ((i:Int)≤(nd.keys.length:Int))=false:=decide_eq_false (by omega)
   have t1':decide (i≤nd.keys.length)=false:=decide_eq_false hend;obtain rfl:i=nd.keys.length+1:=by omega
   gi_wp2_with fail
   go_ret
   have h:=HJ.out
   obtain rfl:L'=[]:=by
    rcases h.rest with ⟨e, -⟩ | ⟨-,e, -⟩
    ·omega
    ·exact e
   have hcnt:=h.cnt;simp only[geL,List.filter_nil,List.length_nil,Nat.add_zero] at hcnt;have hml:=h.ml;exact⟨h.chg,.inl ⟨rfl,by have:=h.j;rw[hcnt] at this;exact this,m',h.left,by omega,h.mm⟩⟩
end
section
open Go.RowKit Go.Maps
theorem bcap_any (p:Nat) (F:Nat→Prop) (x:Rp) (w:World) (h:GP w p F x) :
  Calls prog 49 #[.pointer (some ⟨p,0,none⟩)] w fun e' w'=>e'= .returned (.int .i64 x.now.length)∧w=w':=by
 obtain⟨X,⟨L,d,b,A,ca,vp,vt,vo,h,hF⟩,h2,rfl⟩:=h;obtain⟨At,ct,rfl, -⟩:=own_shape h.tbl;obtain⟨c0,f0,s0⟩:=h.blk.facts;have e:X.view.now.length=X.table.length:=by simp[Gp.view]
 rw[e];clear h hF h2 e;go_enter func49,ntmps49
 go_wp2
 go_ret
 exact⟨rfl,rfl⟩
theorem beach_any (t:Nat) (k:Int) (w W:World) (hW:(w.alloc (.cells #[.pointer (some ⟨t,0,none⟩)] 24)).alloc (.cells #[.int .i64 k] 3)=W) :
  Calls prog 16 #[.pointer (some ⟨t,0,none⟩),.int .i64 k] w fun e w'=>e= .returned (.func (.func 48) #[] #[.pointer (some ⟨w.heap.size,0,none⟩),.pointer (some ⟨w.heap.size+1,0,none⟩)])∧W=w':=by
 subst hW;go_enter func16,ntmps16
 go_wp2
 go_ret
 exact⟨rfl,rfl⟩
attribute [local go_sem] Oper.semAt_some
theorem beach_iter (bt bf t p root y D:Nat) (from_:Int) (F:Nat→Prop) (x:Rp) (L:List KV) (P:List Nat) (J:Nat→World→Prop) (Jx:World→Prop) (w:World) (hs:TS x D root L P)
  (hin:∀k W,J k W→BT W t p root F x∧Blk W bt 24 #[.pointer (some ⟨t,0,none⟩)]∧Blk W bf 3 #[.int .i64 from_])
  (hix:∀W,Jx W→BT W t p root F x∧Blk W bt 24 #[.pointer (some ⟨t,0,none⟩)]∧Blk W bf 3 #[.int .i64 from_])
  (hst:∀k W W',J k W→Chg (fun j=>F j∨w.heap.size≤j) W W'→BT W' t p root F x→J k W')
  (hyl:∀k a b W,J k W→(geL L from_)[k]? =some (a,b)→YieldAt Fence.wide 0 prog y #[.int .i64 a,.int .i64 b] W fun e W'=>Rounded (J (k+1)) Jx e W'∧Chg (fun j=>j< w.heap.size) W W')
  (h0:J 0 w) :
  Calls prog 48 #[.func (.yield y) #[] #[],.pointer (some ⟨bt,0,none⟩),.pointer (some ⟨bf,0,none⟩)] w fun e w'=>IterEnd (J (geL L from_).length) Jx e w':=by
 obtain⟨hbt,hbb,hbf⟩:=hin 0 w h0;have hcap:=bcap_any p F x w hbt.gp;obtain⟨W1,hW1⟩:∃W,w.alloc (.cells #[.int .i64 x.now.length] 3)=W:=⟨_,rfl⟩;have hg1:Grew w W1:=hW1▸(Chg.refl _ _).alloc _;have hl1:Blk W1 w.heap.size 3 #[.int .i64 x.now.length]:=hW1▸Blk.new _ _ _;have hlen:P.length≤x.now.length:=by rw[←hs.used];exact List.countP_le_length
 have hn4:=(yP4 hbt.gp.szs).2;have hj1:J 0 W1.drew:=hst 0 w W1.drew h0 (hg1.chg.drew) (hbt.grew hg1.drew);have hwk:=bwalk_any w.heap.size w.heap.size t p root y from_ F x (geL L from_) J Jx (fun j hj=>hbt.gp.lt j hj) (Nat.le_refl _) hbt.blk.lt (fun k W h=>(hin k W h).1) hst hyl D root L P 0 x.now.length W1.drew hs.tr hs.srt hj1 hg1.size hl1.drew hlen (by omega) ⟨[],by simp⟩
 obtain⟨c0,f0,s0⟩:=hbb.facts;obtain⟨c1,f1,s1⟩:=hbf.facts;obtain⟨c2,f2,s2⟩:=hbt.blk.facts;have hS:W1.drew.cell? ⟨bt,0,none⟩=some (.pointer (some ⟨t,0,none⟩))∧W1.drew.cell? ⟨bf,0,none⟩=some (.int .i64 from_)∧W1.drew.cell? ⟨t,1,none⟩=some (.int .i64 root):=⟨(hbb.grew hg1).drew.cell 0,(hbf.grew hg1).drew.cell 0,(hbt.blk.grew hg1).drew.cell 1⟩
 have H:=yH (yA5 hcap hwk hS hW1 (yA hin hix));clear hcap hwk hS hW1 hin hix hst hyl h0 hbt hbb hbf hg1 hl1 hj1 hlen hs
 (refine(callsIn_wide (n:=1)).1 (callsIn_of_wp func48 rfl trivial ?_ rfl);simp only[ntmps48,List.size_toArray,List.length_cons,List.length_nil,Nat.reduceAdd,Nat.reduceSub,Array.replicate_succ,Array.replicate_zero,List.push_toArray,List.append_toArray,List.nil_append,List.cons_append])
 gi_wp2_with (refine⟨trivial,?_⟩;gi_at_call 49;refine(callsIn_wide.2 H.out.1).mono ?_;rintro e w5 ⟨rfl,rfl⟩)
 rw[H.out.2.2.2.1];have hS:=H.out.2.2.1;refine wpIn_region_inH (S:=fun w'=>w'.cell? ⟨bt,0,none⟩=some (.pointer (some ⟨t,0,none⟩))∧w'.cell? ⟨bf,0,none⟩=some (.int .i64 from_)∧w'.cell? ⟨t,1,none⟩=some (.int .i64 root)) (by kernel_rfl) hS (fun hHeld=>?_);refine Todo.out (is:=[0,1,2,3,4,5,6]) ?_
 repeat
  refine tkF (v:=?_) rfl ⟨Or.inl ⟨by rfl,?_⟩,fun _=>rfl⟩ hHeld ?_;rotate_left
  ·(intro w hSw;(try dsimp only at hSw);go_simp)<;>with_reducible rfl
  (try simp only[Act.put,lZ])
 refine Todo.fin ?_;refine rdF (i:=7) (by kernel_rfl) rfl fun K hK=>?_;go_simp;refine⟨trivial,(callsIn_wide.2 H.out.2.1).mono ?_⟩;rintro e w3 ⟨-,(⟨rfl,hj3, -⟩ | ⟨rfl,hx3⟩)⟩
 ·obtain⟨g1,g2,g3⟩:=(yP4 H.out).1 _ w3 hj3
  have HJ:=yH hj3;refine hK _ _ ⟨g2.cell 0,g3.cell 0,g1.blk.cell 1⟩ ?_;clear hK K hj3;refine wpAnyInH_done (by kernel_rfl) ?_ _;gi_wp2
  refine bodyPost_end (results_none rfl _ _ _) rfl ⟨⟨_,rfl⟩,.inl ?_⟩;have:=HJ.out;rwa[Nat.zero_add] at this
 ·obtain⟨g1,g2,g3⟩:=(yP4 H.out).2 w3 hx3
  have HJ:=yH hx3;refine hK _ _ ⟨g2.cell 0,g3.cell 0,g1.blk.cell 1⟩ ?_;clear hK K hx3;refine wpAnyInH_done (by kernel_rfl) ?_ _;gi_wp2
  refine bodyPost_end (results_none rfl _ _ _) rfl ⟨⟨_,rfl⟩,.inr ?_⟩;exact HJ.out
end
section
open Go.RowKit Go.Maps
attribute [local go_sem] Oper.semAt_some
theorem Fr.kv_mem {R:Nat→List KV→List Nat→Prop} {ks:List Nat} {kv L:List KV} {P:List Nat} (h:Fr R ks kv L P) {y:KV} (hy:y∈L):y∈kv∨∃q M Q,R q M Q∧y∈M:=by
 induction h with
 | one h1=>exact .inr ⟨_,_,_,h1,hy⟩
 | cons h1 _ ih=>
  rcases List.mem_append.1 hy with e | e
  ·exact .inr ⟨_,_,_,h1,e⟩
  ·rcases List.mem_cons.1 e with e | e
   ·exact .inl (e▸List.mem_cons_self)
   ·rcases ih e with e | e
    ·exact .inl (List.mem_cons_of_mem _ e)
    ·exact .inr e
theorem Tr.kv_node {rd:Nat→Option Nd} {h:Nat}:∀ {d q:Nat} {L:List KV} {P:List Nat},Tr rd h d q L P→∀y∈L,∃i nd,rd i=some nd∧y∈nd.kvs
 | 0,q,L,P,⟨nd,h1,_,_,_,h5,_⟩,y,hy=>⟨q,nd,h1,h5▸hy⟩
 | d+1,q,L,P,⟨nd,P',h1,_,_,_,h5,_⟩,y,hy=>by
  rcases h5.kv_mem hy with e | ⟨c,M,Q,g1,g2⟩
  ·exact⟨q,nd,h1,e⟩
  ·exact Tr.kv_node g1.1 y g2
theorem TS.ints {w:World} {p:Nat} {F:Nat→Prop} {x:Rp} {D root:Nat} {L:List KV} {P:List Nat} (h:TS x D root L P) (hg:GP w p F x):∀y∈L,i64 y.1∧i64 y.2:=fun y hy=>by
 obtain⟨i,nd,h1,h2⟩:=h.tr.kv_node y hy;have hf:=(hg.fit h1).1;have:=List.of_mem_zip (show(y.1,y.2)∈nd.keys.zip nd.vals from h2);exact⟨hf.ki _ this.1,hf.vi _ this.2⟩
theorem TS.least {w:World} {p:Nat} {F:Nat→Prop} {x:Rp} {D root:Nat} {L:List KV} {P:List Nat} (h:TS x D root L P) (hg:GP w p F x):geL L (-9223372036854775808)=L:=geL_all fun y hy=>(h.ints hg y hy).1.1
structure LnJ (Wr W:World) (t p root:Nat) (F:Nat→Prop) (x:Rp) (bt bf nb L:Nat) (k:Nat) (r:Loop) (st:LoopState) (pe:Option Code):Prop where
 b0:BT W t p root F x
 b1:Blk W bt 24 #[.pointer (some ⟨t,0,none⟩)]
 b2:Blk W bf 3 #[.int .i64 (-9223372036854775808)]
 chg:Chg (fun j=>F j∨j=nb∨j=L) Wr W
 cnt:Blk W nb 3 #[.int .i64 k]
 rc:Rec W L (Loop.at_ r st pe)
section
variable {Wr W W':World} {t p root:Nat} {F:Nat→Prop} {x:Rp} {bt bf nb L k:Nat} {r:Loop} {st st':LoopState} {pe pe':Option Code}
structure LnA (Wr:World) (t:Nat) (F:Nat→Prop) (bt bf nb L:Nat):Prop where
 l:¬F L∧L≠t∧L≠bt∧L≠bf∧L≠nb∧L≠0
 n:¬F nb∧nb≠t∧nb≠bt∧nb≠bf∧nb≠0
 b:¬F bt∧¬F bf
 lt:L< Wr.heap.size∧nb< Wr.heap.size∧bt< Wr.heap.size∧bf< Wr.heap.size
theorem LnJ.kept (h:LnJ Wr W t p root F x bt bf nb L k r st pe) (a:LnA Wr t F bt bf nb L) (hk:Kept L W W') (hR:Rec W' L (Loop.at_ r st' pe')):LnJ Wr W' t p root F x bt bf nb L k r st' pe':=by
 obtain⟨a1,a2,a3,a4,a5,a6⟩:=a.l;exact⟨h.b0.chg hk.chg (fun j hj e=>a1 (e▸hj)) (fun e=>a6 e.symm) (fun e=>a2 e.symm),h.b1.kept hk,h.b2.kept hk,Chg.trans h.chg hk.chg fun i _ e=> .inr (.inr e),h.cnt.kept hk,hR⟩
theorem LnJ.set (h:LnJ Wr W t p root F x bt bf nb L k r st pe) (a:LnA Wr t F bt bf nb L) {k':Nat} (hW:W.setCell ⟨nb,0,none⟩ (.int .i64 k')=W'):LnJ Wr W' t p root F x bt bf nb L k' r st pe:=by
 obtain⟨a1,a2,a3,a4,a5⟩:=a.n;have hc:Chg (fun j=>j=nb) W W':=hW▸(Chg.refl (fun j=>j=nb) W).setCell (p:=⟨nb,0,none⟩) (fun _=>rfl) _;refine⟨h.b0.chg hc (fun j hj e=>a1 (e▸hj)) (fun e=>a5 e.symm) (fun e=>a2 e.symm),h.b1.chg hc (fun e=>a3 e.symm),h.b2.chg hc (fun e=>a4 e.symm),Chg.trans h.chg hc fun i _ e=> .inr (.inl e),?_,h.rc.chg hc (yP4 a.l).1⟩
 have:=h.cnt.put 0 (.int .i64 k');rw[hW] at this;simpa using this
theorem LnJ.far (h:LnJ Wr W t p root F x bt bf nb L k r st pe) (a:LnA Wr t F bt bf nb L) (hc:Chg (fun j=>F j∨Wr.heap.size≤j) W W') (hb:BT W' t p root F x):LnJ Wr W' t p root F x bt bf nb L k r st pe:=by
 obtain⟨l1,l2,l3,l4⟩:=a.lt;refine⟨hb,h.b1.chg hc (fun e=>e.elim a.b.1 fun e=>by omega),h.b2.chg hc (fun e=>e.elim a.b.2 fun e=>by omega),Chg.trans h.chg hc fun i hi e=>e.elim .inl fun e=>by omega,h.cnt.chg hc (fun e=>e.elim a.n.1 fun e=>by omega),h.rc.chg hc (fun e=>e.elim a.l.1 fun e=>by omega)⟩
end
theorem blen_any (t p root D:Nat) (L:List KV) (P:List Nat) (F:Nat→Prop) (x:Rp) (w:World) (hb:BT w t p root F x) (hs:TS x D root L P) (hl:L.length≤1000000) :
  Calls prog 24 #[.pointer (some ⟨t,0,none⟩)] w fun e w'=>e= .returned (.int .i64 L.length)∧BT w' t p root F x∧Chg F w w':=by
 obtain⟨W0,hW0⟩:∃W0,w.alloc (.cells #[.int .i64 0] 3)=W0:=⟨_,rfl⟩;obtain⟨W1,hW1⟩:∃W1,(W0.alloc (.cells #[.pointer (some ⟨t,0,none⟩)] 24)).alloc (.cells #[.int .i64 (-9223372036854775808)] 3)=W1:=⟨_,rfl⟩;have hz0:W0.heap.size=w.heap.size+1:=by subst hW0;simp
 have hz1:W1.heap.size=w.heap.size+3:=by subst hW1;simp[hz0]
 have hg0:Grew w W0:=hW0▸(Chg.refl _ _).alloc _;have hg1:Grew W0 W1:=hW1▸((Chg.refl _ _).alloc _).alloc _;have hn1:Blk W1 w.heap.size 3 #[.int .i64 0]:=(show Blk W0 w.heap.size 3 #[.int .i64 0] from hW0▸Blk.new _ _ _).grew hg1
 have hb1:Blk W1 (w.heap.size+1) 24 #[.pointer (some ⟨t,0,none⟩)]:=by
  have:=(Blk.new W0 24 #[.pointer (some ⟨t,0,none⟩)]).alloc (.cells #[.int .i64 (-9223372036854775808)] 3);rw[hW1,hz0] at this;exact this
 have hb2:Blk W1 (w.heap.size+2) 3 #[.int .i64 (-9223372036854775808)]:=by
  have:=Blk.new (W0.alloc (.cells #[.pointer (some ⟨t,0,none⟩)] 24)) 3 #[.int .i64 (-9223372036854775808)];rw[hW1] at this;simpa [hz0] using this
 have hea:=beach_any t (-9223372036854775808) W0 W1 hW1;rw[hz0] at hea;have H:=yH (yA5 hb hs hea hW0 (yA5 hn1 hb1 hb2 (Grew.trans hg0 hg1) hz1));clear hb hs hea hW0 hW1 hn1 hb1 hb2 hg0 hg1 hz0 hz1
 (refine calls_of_marks func24 rfl ?_;simp only[ntmps24,List.size_toArray,List.length_cons,List.length_nil,Nat.reduceAdd,Nat.reduceSub,Array.replicate_succ,Array.replicate_zero,List.push_toArray,List.append_toArray,List.nil_append,List.cons_append])
 go_wp2_with fail
 rw[H.out.2.2.2.1];refine H.out.2.2.1.mono ?_;rintro e w1 ⟨rfl,rfl⟩;go_wp2_with fail
 refine wp_range (gf:=48) (lb:= #[.pointer (some ⟨w.heap.size+1,0,none⟩),.pointer (some ⟨w.heap.size+1+1,0,none⟩)]) rfl (enters_of func48 (by kernel_rfl) rfl) ?_;intro r Wr D2 Lr hr hgr hDl hLl hD hR;have hDL:=Ne.symm (hR.ne_dfr hD);have hsr:=hgr.size;have hz1:=(yP8 H.out);have hL2:=hR.lt;have hD2:=hD.lt;have htl:=H.out.1.blk.lt;have hpos:=tab_pos H.out.1.gp.tab
 have hFl:=H.out.1.gp.lt;have hA:LnA Wr t F (w.heap.size+1) (w.heap.size+2) w.heap.size Lr:=⟨⟨fun e=>by have:=hFl _ e;omega,by omega,by omega,by omega,by omega,by omega⟩,⟨fun e=>by have:=hFl _ e;omega,by omega,by omega,by omega,by omega⟩,⟨fun e=>by have:=hFl _ e;omega,fun e=>by have:=hFl _ e;omega⟩,⟨hL2,by omega,by omega,by omega⟩⟩
 have hgw:Grew w Wr:=Grew.trans (yP6 H.out).2.1 hgr;have hJ0:LnJ Wr Wr t p root F x (w.heap.size+1) (w.heap.size+2) w.heap.size Lr 0 r .ready none:=⟨H.out.1.grew hgw,(yP4 H.out).2.1.grew hgr,(yP6 H.out).1.grew hgr,Chg.refl _ _,(yP4 H.out).1.grew hgr,hR⟩;have HR1:=yH (yA5 hr hA hJ0 hgw hD);clear hr hA hJ0 hgw hD hR hgr
 refine(beach_iter (w.heap.size+1) (w.heap.size+2) t p root Lr D (-9223372036854775808) F x L P (fun k W=>LnJ Wr W t p root F x (w.heap.size+1) (w.heap.size+2) w.heap.size Lr k r .ready none) (fun _=>False) Wr H.out.2.1
  (fun k W h=>⟨h.b0,h.b1,h.b2⟩) (fun W h=>h.elim) (fun k W W' h hc hb=>h.far HR1.out.2.1 hc hb) (fun k a b W h hk=>?yld) HR1.out.2.2.1).mono ?post
 case yld=>
  have hkL:k< L.length:=by
   have:=(List.getElem?_eq_some_iff.1 hk).1;rw[H.out.2.1.least H.out.1.gp] at this;exact this
  have HJ:=yH h;clear h hk;obtain⟨hr1,hr2,hr3,hr4⟩:=HR1.out.1;refine yield_wide HJ.out.rc (by rw[hr2];rfl) ?_;rw[hr1,hr2,hr3,hr4];clear hr1 hr2 hr3 hr4;intro K hK;have HK:=yH hK;clear hK;gi_wp2
  refine HK.out _ _ HJ.out.rc fun W3 Q hk3 hR2 hQ=>?_;have HQ:=yH hQ;have HJ3:=yH (HJ.out.kept HR1.out.2.1 hk3 hR2);have HK3:=yH hk3;clear hk3 hR2 hQ;obtain⟨c0,f0,s0⟩:=HJ3.out.cnt.facts;gi_wp2
  obtain⟨W5,hW5⟩:∃W5,W3.setCell ⟨w.heap.size,0,none⟩ (.int .i64 ((k+1:Nat):Int))=W5:=⟨_,rfl⟩;have hJ5:=HJ3.out.set HR1.out.2.1 hW5;have hW5':W3.setCell ⟨w.heap.size,0,none⟩ (.int .i64 ((k:Int)+1))=W5:=by rw[←hW5];simp
  rw[hW5'];have hc5:Chg (fun j=>j=w.heap.size) W3 W5:=hW5▸(Chg.refl (fun j=>j=w.heap.size) W3).setCell (p:=⟨w.heap.size,0,none⟩) (fun _=>rfl) _;have hl:=HR1.out.2.1.lt
  exact HQ.out _ _ _ ⟨hJ5.rc,fun w' hk' hR'=>⟨.inl ⟨rfl,hJ5.kept HR1.out.2.1 hk' hR'⟩,Chg.trans (Chg.trans (HK3.out.chg.mono fun j _ e=>by omega) hc5 fun j _ e=>by omega) hk'.chg fun j _ e=>by omega⟩⟩
 case post=>
  rintro e w3 ⟨hv,hJ | hJ⟩
  ·rw[H.out.2.1.least H.out.1.gp] at hJ
   refine⟨hv,.inl ⟨hJ.rc,fun w4 hk4=>?_⟩⟩;have hc4:=Chg.trans hJ.chg hk4.chg fun i _ e=> .inr (.inr e);have hD4:=(yP4 HR1.out).chg hc4 (fun e=>by rcases e with e | e | e;(have:=hFl _ e;omega);omega;omega);have hb4:=hJ.b0.chg hk4.chg (fun j hj e=>HR1.out.2.1.l.1 (e▸hj)) (fun e=>HR1.out.2.1.l.2.2.2.2.2 e.symm) (fun e=>HR1.out.2.1.l.2.1 e.symm)
   have hn4:=hJ.cnt.kept hk4;have H4:=yH (yA3 hc4 hD4 hb4);clear hc4 hD4 hb4 hJ hk4;obtain⟨c2,f2,s2⟩:=hn4.facts;go_wp2
   refine postM_ret1 (v:= .int .i64 L.length) (D:=D2) H4.out.2.1 rfl fun w6 hk6=>?_;refine⟨by simp[results,results24,go_sem],rfl,?_,?_⟩
   ·exact H4.out.2.2.chg hk6.chg (fun j hj e=>by have:=hFl j hj;omega) (fun e=>by omega) (fun e=>by omega)
   ·have hcw:=Chg.trans (F:=fun j=>F j∨w.heap.size≤j) (HR1.out.2.2.2.1.chg) (Chg.trans (H4.out.1.mono (G:=fun j=>F j∨w.heap.size≤j) fun j _ e=>by rcases e with e | e | e;exact .inl e;exact .inr (by omega);exact .inr (by omega)) hk6.chg (G:=fun j=>j=D2) (F:=fun j=>F j∨w.heap.size≤j) fun j _ e=> .inr (by omega)) fun j _ e=>e
    exact hcw.mono fun j hj e=>e.resolve_right (by omega)
  ·exact hJ.elim
end
section
open Go.RowKit Go.Maps
theorem Tr.ints {rd:Nat→Option Nd} {h d q:Nat} {L:List KV} {P:List Nat} (t:Tr rd h d q L P) (hf:∀q nd,rd q=some nd→(∀k∈nd.keys,i64 k)∧∀v∈nd.vals,i64 v):∀y∈L,i64 y.1∧i64 y.2:=fun y hy=>by
 obtain⟨i,nd,h1,h2⟩:=t.kv_node y hy;have hf:=hf _ _ h1;have:=List.of_mem_zip (show(y.1,y.2)∈nd.keys.zip nd.vals from h2);exact⟨hf.1 _ this.1,hf.2 _ this.2⟩
section
variable {w W W3 w':World} {t p root:Nat} {F:Nat→Prop} {x:Rp} {R:List KV} {bn d q:Nat} {nd:Nd} {F':Nat→Prop} {y:Rp} {D:Nat} {P:List Nat} {k:Int} {A M B:List KV} {P1 PM P2:List Nat} {N:Nat→Prop}
theorem DlJ.saved (h:DlJ w W t p root F x R bn (d+1) q nd F' y D P k A M B P1 PM P2 N) {nd' a:Nd} {q1 ba:Nat} {k':Int} {Na:Nat→Prop} {cn:Pk} {e:Ending} (hf:nd'.Fit y.sz) (hcn:y.now[q]? =some cn) (hcu:cn.used=true) (hc3:Chg N W W3) (hsv:SvOut W3 w' t p root q F' y cn nd' e) (hbt:BT W3 t p root F' y)
  (ha:NdOwn W3 Na ba q1 a) (hNa:∀j,Na j→w.heap.size≤j∧¬F' j) (hr:halfN y.sz≤a.keys.length)
  (hw:∀rd',rd' q=some nd'→(∀i∈P,i≠q→rd' i=y.nd i)→∃A' M' B' P1' PM' P2',DelAt rd' (halfN y.sz) D root R P k' d q1 a A' M' B' P1' PM' P2'):StOut w w' t p root F x R ba d k' e:=by
 have hz:=h.bt.gp.szs.2.2.2.1;have hsz:=h.rch.chg.size;have hlt:=ha.at.lt;rcases hsv with ⟨rfl,F2,g1,g2,g3⟩ | ⟨hns, -,rfl,hg⟩
 ·refine .inl ⟨rfl,?_⟩
  obtain⟨A',M',B',P1',PM',P2',g⟩:=hw (y.put q (.new (ndL nd' y.sz))).nd (Rp.nd_new hf (List.getElem?_eq_some_iff.1 hcn).1 hz) fun i _ hi=>Rp.nd_other hi
  exact⟨_,_,_,_,_,_,_,_,_,_,_,_,_,h.step g1 (G:=fun j=>F' j∨N j) (Chg.trans (hc3.mono fun j _ e=> .inr e) g2 fun j _ e=> .inl e) (fun j hj=>hj.imp id (h.nw j)) (fun j hj=>(g3 j hj).imp id fun e=>by have:=hc3.size;omega) (y.put_like _ _) g (ha.chg g2 fun j hj=>(hNa j hj).2) (fun j hj e=>(g3 j e).elim (hNa j hj).2 fun e=>by have:=hlt j hj;omega) (fun j hj=>(hNa j hj).1) (.inl hr) (by rw[Rp.put_usedU hcn hcu rfl];exact h.cnt) (Nat.le_refl _)⟩
 ·exact .inr ⟨rfl,h.fail (G:=F') hc3 (fun j e=> .inr (h.nw j e)) ⟨y,F',hbt.grew hg,hg.chg,fun _ e=> .inl e,Rp.like.refl y,by omega,fun e=>hns e.1⟩ (fun j e=> .inl e)⟩
end
def ReOut (w w':World) (t p root:Nat) (F:Nat→Prop) (x:Rp) (R:List KV) (d:Nat) (e:Ending):Prop:=
 ∃b k',(e= .returned (.tuple #[.pointer (some ⟨b,0,none⟩),.int .i64 k',.int .i64 0])∧DlN w w' t p root F x R b d k')∨(e= .returned (.tuple #[.pointer (some ⟨b,0,none⟩),.int .i64 k',.int .i64 21])∧Full w w' t p root F x 0)
theorem breplace_any {w W:World} {t p root:Nat} {F:Nat→Prop} {x:Rp} {R:List KV} {bn d q:Nat} {nd:Nd} {F':Nat→Prop} {y:Rp} {D:Nat} {P:List Nat} {k:Int} {A M B:List KV} {P1 PM P2:List Nat} {N:Nat→Prop} {ii:Nat}
  (h:DlJ w W t p root F x R bn (d+1) q nd F' y D P k A M B P1 PM P2 N) (ho:x.was≠none) (hk:nd.keys[ii]? =some k) (hd:d< 40) :
  Calls prog 70 #[.pointer (some ⟨t,0,none⟩),.pointer (some ⟨bn,0,none⟩),.int .i64 ii] W fun e w'=>ReOut w w' t p root F x R d e:=by
 have hz:=h.bt.gp.szs;have hks:=h.ways.tr.keys h.ways.nd h.ways.srt;have hil:ii< nd.keys.length:=(List.getElem?_eq_some_iff.1 hk).1;have hfn:=(h.bt.gp.fit h.ways.nd).1;have hkl:nd.keys.length≤300:=by have h1:=hfn.most;unfold mostN at h1;omega
 have hh3:halfN y.sz≤300:=by unfold halfN mostN;omega
 obtain⟨q1,q2,a,b,kk,vv,k1,k2,k3,k4,k5,k6,k7,k8,k9,m1,m2,m3,m4,m5,m6⟩:=h.kids hil;obtain rfl:k=kk:=by rw[hk] at k5;cases k5;rfl
 have htw:=btwo_any t p root bn q ii q1 q2 F' N y nd a b W h.bt h.own.at h.nF k1 k2 k3 k4 (by omega);obtain⟨M1,Q1,x1,x2,x3⟩:=h.ways.pred k1 k2 k5 k6 k3;obtain⟨M2,Q2,y1,y2,y3⟩:=h.ways.succ k1 k2 k5 k6 k4;have hh:=half_two hz.2.2.1;have hfi:∀q nd,y.nd q=some nd→(∀k∈nd.keys,i64 k)∧∀v∈nd.vals,i64 v:=fun q nd hq=>⟨(h.bt.gp.fit hq).1.ki,(h.bt.gp.fit hq).1.vi⟩
 obtain⟨⟨ka,va⟩,hMa⟩:∃z,M1.getLast? =some z:=⟨_,List.getLast?_eq_some_getLast (x1.some hh)⟩
 obtain⟨⟨kb,vb⟩,hMb⟩:∃z,M2.head? =some z:=by
  cases hM:M2 with
  | nil=>exact absurd hM (y1.some hh)
  | cons z t=>exact⟨z,rfl⟩
 have hia:=x1.1.ints hfi _ (List.mem_of_getLast? hMa);have hib:=y1.1.ints hfi _ (List.mem_of_mem_head? hMb);have HX:=yH (yA4 x1 hMa hia (fun rd'=>x3 ka va rd' hMa));have HYY:=yH (yA4 y1 hMb hib (fun rd'=>y3 kb vb rd' hMb));have H:=yH (yA5 h ho hk hks (yA hfn hd));have HK:=yH (yA5 htw k1 k2 k3 (yA5 k4 k5 k6 k7 (yA5 k8 k9 m1 m2 (yA3 m3 m4 m5))));have HP:=yH (h.own.at.lt)
 have hvl:ii< nd.vals.length:=by rw[hfn.vals];exact hil
 clear h ho hk hks hfn hd htw k1 k2 k3 k4 k5 k6 k7 k8 k9 m1 m2 m3 m4 m5 m6 x1 x2 x3 y1 y2 y3 hMa hMb hia hib hfi hz hh;go_enter func70,ntmps70
 go_wp2_with fail
 refine HK.out.1.mono ?_;rintro e w1 ⟨ba,bb,Na,Nb,rfl,hA,hB,hNa,hNb,hab,hb,hc⟩;have hX1:=H.out.1.at hb hc;obtain⟨g1,g2,g3,g4,g5,g6,hrn⟩:=hX1.own.at.rd;obtain⟨gk1,off1,rfl, -,hx1⟩:=hrn.2.1.2 (by omega);have hck:=hx1 ii (.int .i64 k) (by simp[iv,H.out.2.2.1]);obtain⟨n9,nf9,ns9⟩:=hrn.1.facts;obtain⟨a1,a2,a3,a4,a5,a6,hra⟩:=hA.at.rd
 obtain⟨d9,f9,s9⟩:=hra.1.facts;obtain⟨z1,z2,z3,z4,z5,z6,hrb⟩:=hB.at.rd;obtain⟨e9,ef9,es9⟩:=hrb.1.facts;have hhf:=bhalf_any t p root F' y w1 hb;have HM:=yH (yA5 hA hB hNa hNb (yA3 hab hb hc));have HX1:=yH hX1;have HH:=yH hhf;have i3:(ii:Int)< (nd.keys.length:Int):=by omega
 clear hA hB hNa hNb hab hb hc hX1 hrn hra hrb hhf hx1;by_cases oa:halfN y.sz≤a.keys.length
 case' _=>
  have t3:((halfN y.sz:Nat):Int)≤(a.keys.length:Int):=by omega
  go_wp2_with (go_at_call 71;(refine HH.out.mono ?_);rintro e w1 ⟨rfl,rfl⟩)
  clear hck n9 nf9 ns9 e9 ef9 es9;have hed:=bedge_true t p root q1 d M1 _ F' y w1 (yP4 HM.out).2.1 HX.out.1.1 (yP4 H.out).2;rw[HX.out.2.1] at hed;have HE:=yH hed;clear hed;go_wp2_with fail
  refine HE.out.mono ?_;rintro e w2 ⟨rfl,hb2,hc2⟩;simp only[edA,edB,edE];have hX2:=HX1.out.at hb2 hc2;have hA2:=HM.out.1.chg hc2 fun j hj e=>by have:=HX1.out.bt.gp.lt j e;have:=HM.out.2.2.1 j hj;have:=H.out.1.bt.gp.lt j e;omega
  obtain⟨vkn,vvn,vcn,hN⟩:=hX2.own.v;have rkn:=hN.rk;rw[iv_len] at rkn;have rvn:=hN.rv;rw[iv_len] at rvn;obtain⟨Akn,ckn,rfl, -⟩:=own_shape rkn;obtain⟨Avn,cvn,rfl, -⟩:=own_shape rvn;obtain⟨gkn,rfl, -⟩:=own_block rkn (by omega);obtain⟨gvn,rfl, -⟩:=own_block rvn (by omega)
  have hS3:(fun w':World=>w'.cell? ⟨bn,1,none⟩=some (.slice (some ⟨gkn,0,none⟩) nd.keys.length ckn)∧w'.cell? ⟨bn,2,none⟩=some (.slice (some ⟨gvn,0,none⟩) nd.vals.length cvn)) w2.drew:=⟨hN.blk.drew.cell 1,hN.blk.drew.cell 2⟩;obtain⟨x1,x2⟩:=hN.kset (j:=ii) rfl hil;have hkn1:=(hN.kcell rfl rfl H.out.2.2.1).1;obtain⟨x3',x4',x5⟩:=x2 ka _ rfl
  obtain⟨W4,hW4⟩:∃W,(w2.setCell ⟨gkn,ii,none⟩ (.int .i64 ka)).drew=W:=⟨_,rfl⟩;have g4:Grew (w2.setCell ⟨gkn,ii,none⟩ (.int .i64 ka)) W4:=hW4▸(Chg.refl NoF _).drew;have x3:=x3'.chg g4 fun _ _=>id;have x4:=x4'.grew g4;clear x3' x4' g4;obtain⟨y1,y2⟩:=x3.vset (j:=ii) rfl hvl;have y3:=(x3.vcell rfl rfl (yP6 HK.out).1).1
  obtain⟨W5,hW5⟩:∃W,W4.setCell ⟨gvn,ii,none⟩ (.int .i64 va)=W:=⟨_,rfl⟩;obtain⟨y4,y5,y6⟩:=y2 va W5 hW5;have hc5:Chg N w2 W5:=Chg.trans (x4.mono fun j _ e=>by subst e;exact x5) y5 fun j _ e=>by subst e;exact y6
  have hno:NdOwn W5 N bn q ⟨nd.keys.set ii ka,nd.vals.set ii va,nd.kids⟩:=NdV.own (nd:=⟨nd.keys.set ii ka,nd.vals.set ii va,nd.kids⟩) y4;have hsz1:=(yP6 HM.out).size;have hbt5:=hb2.chg hc5 (fun j hj e=>hX2.nF j e hj) (fun e=>by have:=hX2.nw _ e;have:=tab_pos hb2.gp.tab;have:=hX2.tl;omega) (fun e=>by have:=hX2.nw _ e;have:=hX2.tl;omega)
  have hA5:=hA2.chg hc5 fun j hj e=>by have:=HM.out.2.2.1 j hj;have:=HP.out j e;omega
  obtain⟨cn,cn1,cn2⟩:=(yP12 HK.out).2.2;have hfit:(⟨nd.keys.set ii ka,nd.vals.set ii va,nd.kids⟩:Nd).Fit y.sz:=Nd.set_fit (yP4 H.out).1 HX.out.2.2.1.1 HX.out.2.2.1.2;have hbN:N bn:=hN.nb;have hsv:=bsave_any t p root bn q F' N y cn _ W5 hbt5 hno.at hfit (by rw[H.out.1.like.was];exact H.out.2.1) cn1 cn2 (fun e=>H.out.1.nF bn hbN e)
  have hfin:=hsv.mono fun(e:Ending) (w':World) (hsv:SvOut W5 w' t p root q F' y cn ⟨nd.keys.set ii ka,nd.vals.set ii va,nd.kids⟩ e)=>hX2.saved (k':=ka) hfit cn1 cn2 hc5 hsv hbt5 hA5 (fun j hj=>⟨by have:=HM.out.2.2.1 j hj;have:=H.out.1.rch.chg.size;omega,fun e=>by have:=HM.out.2.2.1 j hj;have:=H.out.1.bt.gp.lt j e;omega⟩) oa (fun rd' e1 e2=>by
   obtain⟨A',B',P1',P2',g⟩:=HX.out.2.2.2 rd' e1 e2;exact⟨_,_,_,_,_,_,g⟩)
  have HS:=yH hfin;have HW:=yH (yA hW4 hW5);have HY:=yH (yA4 y1 y3 x1 hkn1);clear hsv hfin hb2 hc2 hX2 hA2 hN rkn rvn x1 x2 x3 x4 x5 y1 y2 y3 y4 y5 y6 hc5 hno hsz1 hbt5 hA5 cn1 cn2 hfit hbN hW4 hW5 hkn1 d9 f9 s9;go_wp2_with fail
  refine wp_region_y [13,15] (S:=fun w'=>w'.cell? ⟨bn,1,none⟩=some (.slice (some ⟨gkn,0,none⟩) nd.keys.length ckn)∧w'.cell? ⟨bn,2,none⟩=some (.slice (some ⟨gvn,0,none⟩) nd.vals.length cvn)) (by kernel_rfl) hS3 (fun hHeld=>?_);refine Todo.out (is:=[0,1,2,4,5,6,7,9,10,11]) ?_
  repeat
   refine tkQ (v:=?_) rfl (Or.inl ⟨by rfl,?_⟩) ?_;rotate_left
   ·(intro w hSw;go_simp)<;>with_reducible rfl
   (try simp only[Act.put,lZ])
  refine Todo.fin ?_;refine Todo.out (is:=[3,8]) ?_
  repeat
   refine tkY (v:=?_) rfl (Or.inl ⟨by rfl,?_⟩) hHeld ?_;rotate_left
   ·(intro w hSw;(try dsimp only at hSw);go_simp)<;>with_reducible rfl
   (try simp only[Act.put,lZ])
  refine Todo.fin ?_;have HY1:=HY.out.2.2.1;have HY2:=HY.out.2.2.2;refine rdY (i:=12) (by kernel_rfl) rfl fun K hK=>?_;go_simp;refine hK.out _ _ (fun _ h=>h) ?_;clear hK K;(try simp only[Act.put,lZ])
  refine rdY (i:=13) (by kernel_rfl) rfl fun K hK=>?_;go_simp;rw[HW.out.1];clear HY1 HY2;have HY1:=HY.out.1;have HY2:=HY.out.2.1;refine hK.out _ _ (fun h=>by cases h) ?_;clear hK K;(try simp only[Act.put,lZ])
  refine rdY (i:=14) (by kernel_rfl) rfl fun K hK=>?_;go_simp;refine hK.out _ _ (fun _ h=>h) ?_;clear hK K;(try simp only[Act.put,lZ])
  refine rdY (i:=15) (by kernel_rfl) rfl fun K hK=>?_;go_simp;rw[HW.out.2];refine hK.out _ _ (fun h=>by cases h) ?_;clear hK K;(try simp only[Act.put,lZ])
  refine wpAnyY_done (by kernel_rfl) ?_ _;clear hHeld hS3 HY1 HY2 HY HW;go_wp2_with fail
  refine HS.out.mono ?_
 rotate_left
 case' _=>
  have t3:(a.keys.length:Int)< ((halfN y.sz:Nat):Int):=by omega
  have t3b:a.keys.length< halfN y.sz:=by omega
  clear oa;by_cases ob:halfN y.sz≤b.keys.length
  case' _=>
   have t4:((halfN y.sz:Nat):Int)≤(b.keys.length:Int):=by omega
   go_wp2_with (go_at_call 71;(refine HH.out.mono ?_);rintro e w1 ⟨rfl,rfl⟩)
   clear hck n9 nf9 ns9;have hed:=bedge_false t p root q2 d M2 _ F' y w1 (yP4 HM.out).2.1 HYY.out.1.1 (yP4 H.out).2;rw[HYY.out.2.1] at hed;have HE:=yH hed;clear hed;go_wp2_with fail
   refine HE.out.mono ?_;rintro e w2 ⟨rfl,hb2,hc2⟩;simp only[edA,edB,edE];have hX2:=HX1.out.at hb2 hc2;have hA2:=HM.out.2.1.chg hc2 fun j hj e=>by have:=HX1.out.bt.gp.lt j e;have:=HM.out.2.2.2.1 j hj;have:=H.out.1.bt.gp.lt j e;omega
   obtain⟨vkn,vvn,vcn,hN⟩:=hX2.own.v;have rkn:=hN.rk;rw[iv_len] at rkn;have rvn:=hN.rv;rw[iv_len] at rvn;obtain⟨Akn,ckn,rfl, -⟩:=own_shape rkn;obtain⟨Avn,cvn,rfl, -⟩:=own_shape rvn;obtain⟨gkn,rfl, -⟩:=own_block rkn (by omega);obtain⟨gvn,rfl, -⟩:=own_block rvn (by omega)
   have hS3:(fun w':World=>w'.cell? ⟨bn,1,none⟩=some (.slice (some ⟨gkn,0,none⟩) nd.keys.length ckn)∧w'.cell? ⟨bn,2,none⟩=some (.slice (some ⟨gvn,0,none⟩) nd.vals.length cvn)) w2.drew:=⟨hN.blk.drew.cell 1,hN.blk.drew.cell 2⟩;obtain⟨x1,x2⟩:=hN.kset (j:=ii) rfl hil;have hkn1:=(hN.kcell rfl rfl H.out.2.2.1).1;obtain⟨x3',x4',x5⟩:=x2 kb _ rfl
   obtain⟨W4,hW4⟩:∃W,(w2.setCell ⟨gkn,ii,none⟩ (.int .i64 kb)).drew=W:=⟨_,rfl⟩;have g4:Grew (w2.setCell ⟨gkn,ii,none⟩ (.int .i64 kb)) W4:=hW4▸(Chg.refl NoF _).drew;have x3:=x3'.chg g4 fun _ _=>id;have x4:=x4'.grew g4;clear x3' x4' g4;obtain⟨y1,y2⟩:=x3.vset (j:=ii) rfl hvl;have y3:=(x3.vcell rfl rfl (yP6 HK.out).1).1
   obtain⟨W5,hW5⟩:∃W,W4.setCell ⟨gvn,ii,none⟩ (.int .i64 vb)=W:=⟨_,rfl⟩;obtain⟨y4,y5,y6⟩:=y2 vb W5 hW5;have hc5:Chg N w2 W5:=Chg.trans (x4.mono fun j _ e=>by subst e;exact x5) y5 fun j _ e=>by subst e;exact y6
   have hno:NdOwn W5 N bn q ⟨nd.keys.set ii kb,nd.vals.set ii vb,nd.kids⟩:=NdV.own (nd:=⟨nd.keys.set ii kb,nd.vals.set ii vb,nd.kids⟩) y4;have hsz1:=(yP6 HM.out).size;have hbt5:=hb2.chg hc5 (fun j hj e=>hX2.nF j e hj) (fun e=>by have:=hX2.nw _ e;have:=tab_pos hb2.gp.tab;have:=hX2.tl;omega) (fun e=>by have:=hX2.nw _ e;have:=hX2.tl;omega)
   have hA5:=hA2.chg hc5 fun j hj e=>by have:=HM.out.2.2.2.1 j hj;have:=HP.out j e;omega
   obtain⟨cn,cn1,cn2⟩:=(yP12 HK.out).2.2;have hfit:(⟨nd.keys.set ii kb,nd.vals.set ii vb,nd.kids⟩:Nd).Fit y.sz:=Nd.set_fit (yP4 H.out).1 HYY.out.2.2.1.1 HYY.out.2.2.1.2;have hbN:N bn:=hN.nb;have hsv:=bsave_any t p root bn q F' N y cn _ W5 hbt5 hno.at hfit (by rw[H.out.1.like.was];exact H.out.2.1) cn1 cn2 (fun e=>H.out.1.nF bn hbN e)
   have hfin:=hsv.mono fun(e:Ending) (w':World) (hsv:SvOut W5 w' t p root q F' y cn ⟨nd.keys.set ii kb,nd.vals.set ii vb,nd.kids⟩ e)=>hX2.saved (k':=kb) hfit cn1 cn2 hc5 hsv hbt5 hA5 (fun j hj=>⟨by have:=HM.out.2.2.2.1 j hj;have:=H.out.1.rch.chg.size;omega,fun e=>by have:=HM.out.2.2.2.1 j hj;have:=H.out.1.bt.gp.lt j e;omega⟩) ob (fun rd' e1 e2=>by
    obtain⟨A',B',P1',P2',g⟩:=HYY.out.2.2.2 rd' e1 e2;exact⟨_,_,_,_,_,_,g⟩)
   have HS:=yH hfin;have HW:=yH (yA hW4 hW5);have HY:=yH (yA4 y1 y3 x1 hkn1);clear hsv hfin hb2 hc2 hX2 hA2 hN rkn rvn x1 x2 x3 x4 x5 y1 y2 y3 y4 y5 y6 hc5 hno hsz1 hbt5 hA5 cn1 cn2 hfit hbN hW4 hW5 hkn1 d9 f9 s9 e9 ef9 es9;go_wp2_with fail
   refine wp_region_y [13,15] (S:=fun w'=>w'.cell? ⟨bn,1,none⟩=some (.slice (some ⟨gkn,0,none⟩) nd.keys.length ckn)∧w'.cell? ⟨bn,2,none⟩=some (.slice (some ⟨gvn,0,none⟩) nd.vals.length cvn)) (by kernel_rfl) hS3 (fun hHeld=>?_);refine Todo.out (is:=[0,1,2,4,5,6,7,9,10,11]) ?_
   repeat
    refine tkQ (v:=?_) rfl (Or.inl ⟨by rfl,?_⟩) ?_;rotate_left
    ·(intro w hSw;go_simp)<;>with_reducible rfl
    (try simp only[Act.put,lZ])
   refine Todo.fin ?_;refine Todo.out (is:=[3,8]) ?_
   repeat
    refine tkY (v:=?_) rfl (Or.inl ⟨by rfl,?_⟩) hHeld ?_;rotate_left
    ·(intro w hSw;(try dsimp only at hSw);go_simp)<;>with_reducible rfl
    (try simp only[Act.put,lZ])
   refine Todo.fin ?_;have HY1:=HY.out.2.2.1;have HY2:=HY.out.2.2.2;refine rdY (i:=12) (by kernel_rfl) rfl fun K hK=>?_;go_simp;refine hK.out _ _ (fun _ h=>h) ?_;clear hK K;(try simp only[Act.put,lZ])
   refine rdY (i:=13) (by kernel_rfl) rfl fun K hK=>?_;go_simp;rw[HW.out.1];clear HY1 HY2;have HY1:=HY.out.1;have HY2:=HY.out.2.1;refine hK.out _ _ (fun h=>by cases h) ?_;clear hK K;(try simp only[Act.put,lZ])
   refine rdY (i:=14) (by kernel_rfl) rfl fun K hK=>?_;go_simp;refine hK.out _ _ (fun _ h=>h) ?_;clear hK K;(try simp only[Act.put,lZ])
   refine rdY (i:=15) (by kernel_rfl) rfl fun K hK=>?_;go_simp;rw[HW.out.2];refine hK.out _ _ (fun h=>by cases h) ?_;clear hK K;(try simp only[Act.put,lZ])
   refine wpAnyY_done (by kernel_rfl) ?_ _;clear hHeld hS3 HY1 HY2 HY HW;go_wp2_with fail
   refine HS.out.mono ?_
  rotate_left
  case' _=>
   have t4:(b.keys.length:Int)< ((halfN y.sz:Nat):Int):=by omega
   have t4b:b.keys.length< halfN y.sz:=by omega
   clear ob;have heo:=erase_own H.out.2.2.1 H.out.2.2.2.1
   have hcl:=H.out.1.callM H.out.2.1 heo.1 heo.2 HK.out.2.1 HK.out.2.2.1 (yP4 HK.out).2.1 (yP6 HK.out).1 HK.out.2.2.2.1 (yP4 HK.out).1 (yP6 HK.out).2.1 (yP8 HK.out).1 (yP8 HK.out).2.1 (yP10 HK.out).1 (yP10 HK.out).2.1 (yP12 HK.out).1 (yP12 HK.out).2.1 (yP12 HK.out).2.2 t3b t4b HM.out.1 HM.out.2.1 HM.out.2.2.1 HM.out.2.2.2.1 (yP4 HM.out).1 (yP4 HM.out).2.1 (yP6 HM.out);have HC:=yH hcl
   clear hcl heo;go_wp2_with (go_at_call 71;(refine HH.out.mono ?_);rintro e w1 ⟨rfl,rfl⟩)
   refine HC.out.mono ?_;clear hck n9 nf9 ns9 e9 ef9 es9 d9 f9 s9
  rotate_left
 rotate_left 2
 all_goals
  rintro e w' (⟨rfl,hr⟩ | ⟨rfl,hr⟩)
  ·have HO:=yH hr
   clear hr;go_wp2_with fail
   go_ret3
   exact⟨_,_,.inl ⟨rfl,HO.out⟩⟩
  ·have HO:=yH hr
   clear hr;go_wp2_with fail
   go_ret3
   exact⟨_,_,.inr ⟨rfl,HO.out⟩⟩
end
section
open Go.RowKit Go.Maps
section
variable {w W W3 w':World} {t p root:Nat} {F:Nat→Prop} {x:Rp} {R:List KV} {bn d q:Nat} {nd:Nd} {F':Nat→Prop} {y:Rp} {D:Nat} {P:List Nat} {k:Int} {A M B:List KV} {P1 PM P2:List Nat} {N:Nat→Prop}
theorem DelAt.found {rd:Nat→Option Nd} {h:Nat} (a:DelAt rd h D root R P k 0 q nd A M B P1 PM P2):nd.keys.contains k=true:=by
 obtain⟨v,hv⟩:=a.has;obtain⟨nd',g1,g2,g3,g4,g5,g6⟩:=a.tr;rw[a.nd] at g1;cases g1;refine List.contains_iff_mem.2 ?_;rw[←kvs_keys g3,←g5];exact List.mem_map.2 ⟨(k,v),hv,rfl⟩
def DeOk (w w':World) (t p root:Nat) (F:Nat→Prop) (x:Rp) (R:List KV):Prop:=∃y F' D P,BT w' t p root F' y∧Rch F F' w w'∧x.like y∧TS y D root R P
theorem DlJ.ends (h:DlJ w W t p root F x R bn 0 q nd F' y D P k A M B P1 PM P2 N) (hR:Srt R) {cn:Pk} {e:Ending} (hcn:y.now[q]? =some cn) (hcu:cn.used=true) (hc3:Chg N W W3) (hbt:BT W3 t p root F' y) (hf:(⟨nd.keys.eraseIdx (atI nd.keys k),nd.vals.eraseIdx (atI nd.keys k),[]⟩:Nd).Fit y.sz)
  (hsv:SvOut W3 w' t p root q F' y cn ⟨nd.keys.eraseIdx (atI nd.keys k),nd.vals.eraseIdx (atI nd.keys k),[]⟩ e):(e= .returned (.int .i64 0)∧DeOk w w' t p root F x R)∨(e= .returned (.int .i64 21)∧Full w w' t p root F x 0):=by
 have hz:=h.bt.gp.szs;have hsz:=h.rch.chg.size;have hh:=half_two hz.2.2.1;have hF':∀j,j< w.heap.size→F' j→F j:=fun j hj e=>(h.rch.new j e).resolve_right (by omega);rcases hsv with ⟨rfl,F2,g1,g2,g3⟩ | ⟨hns, -,rfl,hg⟩
 ·refine .inl ⟨rfl,?_⟩
  obtain⟨-,ht⟩:=h.ways.leaf (rd':=(y.put q (.new (ndL ⟨nd.keys.eraseIdx (atI nd.keys k),nd.vals.eraseIdx (atI nd.keys k),[]⟩ y.sz))).nd) h.room (by omega) (Rp.nd_new hf (List.getElem?_eq_some_iff.1 hcn).1 hz.2.2.2.1) fun i _ hi=>Rp.nd_other hi
  refine⟨_,F2,D,P,g1,⟨Chg.trans (Chg.trans h.rch.chg hc3 fun j hj e=>by have:=h.nw j e;omega) g2 fun j hj e=>hF' j hj e,fun j hj=>(g3 j hj).elim (h.rch.new j) fun e=> .inr (by have:=hc3.size;omega)⟩,h.like.trans (y.put_like _ _),?_⟩;exact⟨ht,h.ways.nod,hR,by rw[Rp.put_usedU hcn hcu rfl];exact h.cnt⟩
 ·exact .inr ⟨rfl,h.fail (G:=F') hc3 (fun j e=> .inr (h.nw j e)) ⟨y,F',hbt.grew hg,hg.chg,fun _ e=> .inl e,Rp.like.refl y,by omega,fun e=>hns e.1⟩ (fun j e=> .inl e)⟩
theorem leaf_fit {sz i:Nat} (f:nd.Fit sz) (hi:i< nd.keys.length):(⟨nd.keys.eraseIdx i,nd.vals.eraseIdx i,[]⟩:Nd).Fit sz:=by
 have hv:=f.vals;have hm:=f.most;have l1:(nd.keys.eraseIdx i).length=nd.keys.length - 1:=List.length_eraseIdx_of_lt hi;have l2:(nd.vals.eraseIdx i).length=nd.vals.length - 1:=List.length_eraseIdx_of_lt (by omega)
 exact⟨by simp only;omega,by simp only;omega,.inl rfl,fun k hk=>f.ki k (List.mem_of_mem_eraseIdx hk),fun k hk=>f.vi k (List.mem_of_mem_eraseIdx hk),fun c hc=>(by cases hc)⟩
end
def DeOut (w w':World) (t p root:Nat) (F:Nat→Prop) (x:Rp) (L:List KV) (k:Int) (e:Ending):Prop:=
 (e= .returned (.int .i64 0)∧(∃v,getK L k=some v)∧DeOk w w' t p root F x (delL L k))∨(e= .returned (.int .i64 14)∧getK L k=none∧BT w' t p root F x∧Chg F w w')∨(e= .returned (.int .i64 21)∧Full w w' t p root F x 0)
theorem getK_in {L:List KV} {k v:Int} (h:getK L k=some v):∃v,(k,v)∈L:=by
 unfold getK at h;rw[Option.map_eq_some_iff] at h;obtain⟨a,h1, -⟩:=h;have h2:=List.find?_some h1;simp at h2
 exact⟨a.2,by rw[←h2];exact List.mem_of_find?_eq_some h1⟩
theorem bdel2_any (t p root D0:Nat) (k:Int) (L:List KV) (P:List Nat) (F:Nat→Prop) (x:Rp) (w:World) (hb:BT w t p root F x) (ho:x.was≠none) (hs:TS x D0 root L P) (hl:L.length≤1000) :
  Calls prog 29 #[.pointer (some ⟨t,0,none⟩),.int .i64 k] w fun e w'=>DeOut w w' t p root F x L k e:=by
 have hz:=hb.gp.szs;have hh:=half_two hz.2.2.1;have hD:=hs.depth hh hl;have hgt:=bget2_any t p root (halfN x.sz) D0 k L P F x w hb hs.tr hs.srt (by omega) hs.nd;have htl:=hb.blk.lt;have H:=yH (yA5 hgt hb ho hs (yA4 hz hh hD htl));clear hgt hb ho hs hz hh hD htl;obtain⟨g,hg⟩:∃g,getK L k=g:=⟨_,rfl⟩;rw[hg] at H
 cases g with
 | none=>
  simp only[gV,gE] at H;have Hg:=yH hg;clear hg;go_enter func29,ntmps29
  go_wp2_with fail
  refine H.out.1.mono ?_;rintro e w1 ⟨rfl,hb1,hc1⟩;have HO:=yH (yA hb1 hc1);clear hb1 hc1;go_wp2_with fail
  go_ret
  exact .inr (.inl ⟨rfl,Hg.out,HO.out.1,HO.out.2⟩)
 | some v0=>
  simp only[gV,gE] at H;have Hg:=yH hg;clear hg;go_enter func29,ntmps29
  go_wp2_with fail
  refine H.out.1.mono ?_;rintro e w1 ⟨rfl,hb1,hc1⟩;obtain⟨nd0,hway⟩:=DelAt.start (k:=k) H.out.2.2.2.1.tr H.out.2.2.2.1.srt H.out.2.2.2.1.nd (getK_in Hg.out);obtain⟨cp,cp1,cp2,cp3⟩:=Rp.nd_some hway.nd;have hld:=bload_any t p root root F x cp nd0 w1 hb1 cp1 cp2 cp3;obtain⟨c0,f0,s0⟩:=hb1.blk.facts;have H1:=yH (yA4 hld hb1 hc1 hway);clear hld hb1 hc1 hway cp1 cp2 cp3
  go_wp2_with fail
  refine H1.out.1.mono ?_;clear c0 f0 s0;rintro e w2 ⟨b0,N0,rfl,hn2,hN2,hb2,hc2⟩
  have hJ0:DlJ w w2 t p root F x (delL L k) b0 D0 root nd0 F x D0 P k [] L [] [] P [] N0:=by
   have hz1:=H1.out.2.2.1.size;have hFl:=H.out.2.1.gp.lt;exact⟨hb2,⟨Chg.trans H1.out.2.2.1 hc2 fun _ _ e=>e,fun j e=> .inl e⟩,Rp.like.refl x,H1.out.2.2.2,hn2,fun j hj e=>by have:=hN2 j hj;have:=hFl j e;omega,fun j hj=>by have:=hN2 j hj;omega,.inr rfl,H.out.2.2.2.1.used,Nat.le_refl _,(yP6 H.out).2⟩
  have HJ0:=yH hJ0;have HR:=yH (delL_srt H.out.2.2.2.1.srt k);clear hJ0 hn2 hN2 hb2 hc2;go_wp2_with fail
  go_loopg [1,7,8,31] (D0+2) (fun m kv n ev i wr=>∃ (mm b jj:Nat) (k1:Int),m=mm∧kv= .int .i64 k1∧n= .pointer (some ⟨b,0,none⟩)∧i= .int .i64 jj∧((∃d,mm=d+2∧ev= .int .i64 0∧jj+d≤9∧DlN w wr t p root F x (delL L k) b d k1)∨(mm=1∧ev= .int .i64 21∧jj≤10∧Full w wr t p root F x 0)))
  case atStart=>exact⟨_,b0,0,k,rfl,rfl,rfl,rfl,.inl ⟨D0,rfl,rfl,by have:=(yP6 H.out).1;omega,_,_,_,_,_,_,_,_,_,_,_,_,_,HJ0.out⟩⟩
  case round=>
   obtain⟨mm,bn,jj,k1,rfl,rfl,rfl,rfl,hor⟩:=hrel;clear HJ0;rcases hor with ⟨d,rfl,rfl,hjd,hN⟩ | ⟨rfl,rfl,hjd,hfu⟩
   rotate_left
   ·have HO:=yH hfu
    have hj80:(jj:Int)< 80:=by omega
    clear hfu hjd;go_wp2_with fail
    refine bodyPost_ret (v:= .int .i64 21) (by simp[results,results29,go_sem]) rfl ?_;exact .inr (.inr ⟨rfl,HO.out⟩)
   obtain⟨q,nd,F',y,D,P',A,M,B,P1,PM,P2,N,hJ⟩:=hN;have HJ:=yH hJ;have hj80:(jj:Int)< 80:=by omega
   have HDJ:=yH hjd;have hkl0:nd.keys.length≤300:=by have h1:=(hJ.bt.gp.fit hJ.ways.nd).1.most;have h2:=hJ.bt.gp.szs;unfold mostN at h1;omega
   have hks:=hJ.ways.tr.keys hJ.ways.nd hJ.ways.srt;have hpl:=bplace_any bn q nd N k1 wr hJ.own.at hks (by omega)
   have hdz:nd.kids.length=0↔d=0:=by
    obtain⟨nd',g1, -, -,g2⟩:=hJ.ways.tr.node;rw[hJ.ways.nd] at g1
    cases g1
    exact g2
   obtain⟨ii,hii⟩:∃i,atI nd.keys k1=i:=⟨_,rfl⟩;have hii0:=hii;rw[hii] at hpl
   have hkl:nd.kids.length≤400:=by
    rcases(hJ.bt.gp.fit hJ.ways.nd).1.kids with e | e
    ·rw[e];simp
    ·omega
   have HL:=yH (yA4 trivial hpl hks hii);have HZ:=yH hdz;clear hJ hjd hks hpl hdz hii hii0;by_cases h0:nd.kids.length=0
   ·obtain rfl:d=0:=HZ.out.1 h0
    have t1:decide (nd.kids.length=0)=true:=decide_eq_true h0;have hfo:=HJ.out.ways.found;rw[hfo] at HL;have hkk:=(atI_found HL.out.2.2.1).1 hfo;have hil:ii< nd.keys.length:=by have:=(List.getElem?_eq_some_iff.1 hkk).1;rw[HL.out.2.2.2] at this;exact this
    have hfn:=(HJ.out.bt.gp.fit HJ.out.ways.nd).1;have Hhf:=yH (yA hfn hfo);have hvl:ii< nd.vals.length:=by rw[hfn.vals];exact hil
    have hkl:nd.keys.length≤300:=by have h1:=hfn.most;have h2:=HJ.out.bt.gp.szs;unfold mostN at h1;omega
    have hii1:IntKind.i64.wrap ((ii:Int)+1)=((ii+1:Nat):Int):=by rw[IntWalk.i64_in _ ⟨by omega,by omega⟩];omega
    clear hfo hkk hfn;go_wp2_with fail
    refine HL.out.2.1.mono ?_;rintro e w4 ⟨rfl,hg4⟩;have hlf4:=leaf_any bn q nd N w4 (HJ.out.own.at.grew hg4);have hJ4:=HJ.out.at (HJ.out.bt.grew hg4) hg4.chg;have HJ4:=yH hJ4;have HLf:=yH hlf4;clear hJ4 hlf4 hg4;have HJ5:=HJ4;clear HJ4;go_wp2_with (go_at_call 41;(refine HLf.out.mono ?_);rintro e w6 ⟨rfl,rfl⟩)
    obtain⟨vkn,vvn,vcn,hN⟩:=HJ5.out.own.v;have rkn:=hN.rk;rw[iv_len] at rkn;have rvn:=hN.rv;rw[iv_len] at rvn;obtain⟨Akn,ckn,rfl, -⟩:=own_shape rkn;obtain⟨Avn,cvn,rfl, -⟩:=own_shape rvn;obtain⟨gkn,rfl, -⟩:=own_block rkn (by omega);obtain⟨gvn,rfl, -⟩:=own_block rvn (by omega)
    have hS4:(fun w':World=>w'.cell? ⟨bn,1,none⟩=some (.slice (some ⟨gkn,0,none⟩) nd.keys.length ckn)∧w'.cell? ⟨bn,2,none⟩=some (.slice (some ⟨gvn,0,none⟩) nd.vals.length cvn)) w4.drew:=⟨hN.blk.drew.cell 1,hN.blk.drew.cell 2⟩;have hN4:=hN.chg ((Chg.refl NoF w4).drew) fun _ _=>id;have rk4:=hN4.rk;rw[iv_len] at rk4
    have hd4:=bdelete_any 1 _ nd.keys ii w4.drew rk4 hil;rw[show((ii+1:Nat):Int)=(ii:Int)+1 from by omega] at hd4;have H4:=yH (yA hd4 hN4);clear hd4 hN4 rk4 hN rkn rvn;go_wp2_with fail
    refine wp_region_y [20,23] (S:=fun w'=>w'.cell? ⟨bn,1,none⟩=some (.slice (some ⟨gkn,0,none⟩) nd.keys.length ckn)∧w'.cell? ⟨bn,2,none⟩=some (.slice (some ⟨gvn,0,none⟩) nd.vals.length cvn)) (by kernel_rfl) hS4 (fun hHeld=>?_);refine Todo.out (is:=[0,1,2,3,4,6,7,8,10,11,12,14,15,16]) ?_
    repeat
     refine tkQ (v:=?_) rfl (Or.inl ⟨by rfl,?_⟩) ?_;rotate_left
     ·(intro w hSw;go_simp)<;>with_reducible rfl
     (try simp only[Act.put,lZ])
    refine Todo.fin ?_;refine Todo.out (is:=[5,13]) ?_
    repeat
     refine tkY (v:=?_) rfl (Or.inl ⟨by rfl,?_⟩) hHeld ?_;rotate_left
     ·(intro w hSw;(try dsimp only at hSw);go_simp)<;>with_reducible rfl
     (try simp only[Act.put,lZ])
    refine Todo.fin ?_;refine rdY (i:=9) (by kernel_rfl) rfl fun K hK=>?_;go_simp;refine H4.out.1.mono ?_;rintro e w5 ⟨A5,c5,rfl,ho5,ha5⟩;have hne5:=H4.out.2.ne;have hb5:=H4.out.2.blk.chg ha5.chg hne5.1;have lk5:(nd.keys.eraseIdx ii).length=nd.keys.length - 1:=List.length_eraseIdx_of_lt hil
    have lv5:(nd.vals.eraseIdx ii).length=nd.vals.length - 1:=List.length_eraseIdx_of_lt hvl;have hr5:=H4.out.2.rws.setK ha5 (l':=iv (nd.keys.eraseIdx ii)) (by rw[iv_len,lk5];exact ho5);have rv5:=hr5.rv;rw[iv_len] at rv5;have hd5:=bdelete_any 1 _ nd.vals ii w5 rv5 hvl;rw[show((ii+1:Nat):Int)=(ii:Int)+1 from by omega] at hd5
    have hS5:(fun w':World=>w'.cell? ⟨bn,1,none⟩=some (.slice (some ⟨gkn,0,none⟩) nd.keys.length ckn)∧w'.cell? ⟨bn,2,none⟩=some (.slice (some ⟨gvn,0,none⟩) nd.vals.length cvn)) w5:=⟨hb5.cell 1,hb5.cell 2⟩;have H5:=yH (yA5 hd5 hr5 hb5 ha5 (yA3 hne5 lk5 lv5));clear hd5 hr5 hb5 ha5 hne5 lk5 lv5 rv5 ho5;refine hK.out _ _ (fun _ _=>hS5) ?_;clear hK K
    (try simp only[Act.put,lZ])
    refine rdY (i:=17) (by kernel_rfl) rfl fun K hK=>?_;go_simp;refine H5.out.1.mono ?_;rintro e w6 ⟨A6,c6,rfl,ho6,ha6⟩;have hb6:=H5.out.2.2.1.chg ha6.chg (yP4 H5.out).1.2.1;have hr6:=H5.out.2.1.setV ha6 (l':=iv (nd.vals.eraseIdx ii)) (by rw[iv_len,(yP6 H5.out)];exact ho6)
    have hS6:(fun w':World=>w'.cell? ⟨bn,1,none⟩=some (.slice (some ⟨gkn,0,none⟩) nd.keys.length ckn)∧w'.cell? ⟨bn,2,none⟩=some (.slice (some ⟨gvn,0,none⟩) nd.vals.length cvn)) w6:=⟨hb6.cell 1,hb6.cell 2⟩;obtain⟨d9,f9,s9⟩:=hb6.facts;have H6:=yH (yA3 hr6 hb6 ha6);clear hr6 hb6 ha6 ho6;refine hK.out _ _ (fun _ _=>hS6) ?_;clear hK K;(try simp only[Act.put,lZ])
    refine rdY (i:=18) (by kernel_rfl) rfl fun K hK=>?_;go_simp;refine hK.out _ _ (fun _ h=>h) ?_;clear hK K;(try simp only[Act.put,lZ])
    refine rdY (i:=19) (by kernel_rfl) rfl fun K hK=>?_;go_simp;refine hK.out _ _ (fun _ h=>h) ?_;clear hK K;(try simp only[Act.put,lZ])
    refine rdY (i:=20) (by kernel_rfl) rfl fun K hK=>?_;go_simp;obtain⟨W7,hW7⟩:∃W,w6.setCell ⟨bn,1,none⟩ (.slice A5 (nd.keys.length - 1) c5)=W:=⟨_,rfl⟩;rw[hW7];have hb7:=H6.out.2.1.put 1 (.slice A5 (nd.keys.length - 1) c5);rw[hW7] at hb7;have hc7:Chg (fun j=>j=bn) w6 W7:=hW7▸(Chg.refl (fun j=>j=bn) w6).setCell (p:=⟨bn,1,none⟩) (fun _=>rfl) _
    clear d9 f9 s9 hW7;obtain⟨d9,f9,s9⟩:=hb7.facts;refine hK.out _ _ (fun h=>by cases h) ?_;clear hK K;(try simp only[Act.put,lZ])
    refine rdY (i:=21) (by kernel_rfl) rfl fun K hK=>?_;go_simp;refine hK.out _ _ (fun _ h=>h) ?_;clear hK K;(try simp only[Act.put,lZ])
    refine rdY (i:=22) (by kernel_rfl) rfl fun K hK=>?_;go_simp;refine hK.out _ _ (fun _ h=>h) ?_;clear hK K;(try simp only[Act.put,lZ])
    refine rdY (i:=23) (by kernel_rfl) rfl fun K hK=>?_;go_simp;obtain⟨W8,hW8⟩:∃W,W7.setCell ⟨bn,2,none⟩ (.slice A6 (nd.vals.length - 1) c6)=W:=⟨_,rfl⟩;rw[hW8];have hb8:=hb7.put 2 (.slice A6 (nd.vals.length - 1) c6);rw[hW8] at hb8
    have hc8:Chg (fun j=>j=bn) w6 W8:=Chg.trans hc7 (hW8▸(Chg.refl (fun j=>j=bn) W7).setCell (p:=⟨bn,2,none⟩) (fun _=>rfl) _) fun _ _ e=>e;refine hK.out _ _ (fun h=>by cases h) ?_;clear hK K;(try simp only[Act.put,lZ])
    refine wpAnyY_done (by kernel_rfl) ?_ _;have hb8':Blk W8 bn 73 #[.int .i64 q,.slice A5 (nd.keys.length - 1) c5,.slice A6 (nd.vals.length - 1) c6,vcn]:=by simpa using hb8
    have hr8:=H6.out.1;have hbn6:=H6.out.2.1;have hnbN:N bn:=H4.out.2.nb;have hn8:=(hr8.chg hc8 (fun g hg e=>own_blk_ne hr8.rk hbn6 (by decide) (by rw[hg,e])) (fun g hg e=>own_blk_ne hr8.rv hbn6 (by decide) (by rw[hg,e])) (fun g hg e=>own_blk_ne hr8.rc hbn6 (by decide) (by rw[hg,e]))).ndv hb8' (.inl (.inl hnbN));have hkc:nd.kids=[]:=List.eq_nil_of_length_eq_zero h0
    rw[hkc] at hn8;have hno8:=NdV.own (nd:=⟨nd.keys.eraseIdx ii,nd.vals.eraseIdx ii,[]⟩) hn8;have hc38:Chg N w4 W8:=Chg.trans (Chg.trans (Chg.trans ((Chg.refl N w4).drew) H5.out.2.2.2.1.chg fun j _ e=>H4.out.2.nk j e) H6.out.2.2.chg fun j _ e=>H4.out.2.nv j e) hc8 fun j _ e=>by subst e;exact hnbN
    have hbt8:=HJ5.out.bt.chg hc38 (fun j hj e=>HJ5.out.nF j e hj) (fun e=>by have:=HJ5.out.nw _ e;have:=HJ5.out.tl;omega) (fun e=>by have:=HJ5.out.nw _ e;have:=HJ5.out.tl;omega);have hfit:=leaf_fit Hhf.out.1 hil;obtain⟨cq,cq1,cq2, -⟩:=Rp.nd_some HJ5.out.ways.nd
    have hsv:=(bsave_any t p root bn q F' _ y cq _ W8 hbt8 hno8.at hfit (by rw[HJ5.out.like.was];exact H.out.2.2.1) cq1 cq2 (fun e=>HJ5.out.nF bn hnbN e)).mono fun e w' hsv=>HJ5.out.ends HR.out cq1 cq2 hc38 hbt8 (by rw[HL.out.2.2.2];exact hfit) (by rw[HL.out.2.2.2];exact hsv);have HS:=yH hsv
    clear hHeld hS4 hS5 hS6 d9 f9 s9 hb7 hc7 hb8 hc8 hW8 hb8' hr8 hbn6 hnbN hn8 hkc hno8 hc38 hbt8 hfit cq1 cq2 hsv;go_wp2_with fail
    refine HS.out.mono ?_;rintro e w' (⟨rfl,hr⟩ | ⟨rfl,hr⟩)
    ·have HO:=yH hr
     clear hr;go_wp2_with fail
     go_ret
     exact .inl ⟨rfl,⟨v0,Hg.out⟩,HO.out⟩
    ·have HO:=yH hr
     clear hr;go_wp2_with fail
     go_ret
     exact .inr (.inr ⟨rfl,HO.out⟩)
   ·have t1:decide (nd.kids.length=0)=false:=decide_eq_false h0
    have t2:decide (nd.kids=[])=false:=decide_eq_false fun e=>h0 (by rw[e];rfl);obtain⟨d',rfl⟩:∃d',d=d'+1:=⟨d - 1,by have hd0:d≠0:=(fun e=>h0 (HZ.out.2 e));omega⟩;clear h0
    cases hfb:nd.keys.contains k1 with
    | true=>
     have hkk:=(atI_found HL.out.2.2.1).1 hfb;rw[HL.out.2.2.2] at hkk;rw[hfb] at HL;have hre:=fun W1 (hg:Grew wr W1)=>breplace_any (HJ.out.at (HJ.out.bt.grew hg) hg.chg) H.out.2.2.1 hkk (by have:=HDJ.out;omega);have HRe:=yH hre;clear hre hkk hfb;go_wp2_with fail
     refine HL.out.2.1.mono ?_;rintro e w4 ⟨rfl,hg4⟩;have HG4:=yH hg4;clear hg4;have hg5:Grew wr w4:=HG4.out;have hlf5:=leaf_any bn q nd N w4 (HJ.out.own.at.grew hg5);have hre5:=HRe.out w4 hg5;have H5:=yH (yA hlf5 hre5);clear hg5 hlf5 hre5;go_wp2_with (go_at_call 41;(refine H5.out.1.mono ?_);rintro e w6 ⟨rfl,rfl⟩)
     refine H5.out.2.mono ?_;rintro e w6 ⟨b6,k6,(⟨rfl,hr⟩ | ⟨rfl,hr⟩)⟩
     ·have HO:=yH hr
      clear hr;go_wp2_with fail
      go_roundg (d'+2)
      case measure=>omega
      case rel=>exact⟨_,b6,jj+1,k6,rfl,rfl,rfl,by simp,.inl ⟨d',rfl,rfl,by have:=HDJ.out;omega,HO.out⟩⟩
     ·have HO:=yH hr
      clear hr;go_wp2_with fail
      go_roundg 1
      case measure=>omega
      case rel=>exact⟨_,b6,jj+1,k6,rfl,rfl,rfl,by simp,.inr ⟨rfl,rfl,by have:=HDJ.out;omega,HO.out⟩⟩
    | false=>
     obtain⟨e2,kd,A2,M2,B2,P3,PM2,P4,he2,hw2⟩:=HJ.out.ways.down hfb;rw[HL.out.2.2.2] at he2;obtain⟨cp,cp1,cp2,cp3⟩:=Rp.nd_some hw2.nd;have hfk:=(HJ.out.bt.gp.fit hw2.nd).1;have hkl2:kd.keys.length≤300:=by have h1:=hfk.most;have h2:=HJ.out.bt.gp.szs;unfold mostN at h1;omega
     have hil:(ii:Int)< (nd.kids.length:Int):=by have:=(List.getElem?_eq_some_iff.1 he2).1;omega
     have hilN:ii< nd.kids.length:=by omega
     have H2:=yH (yA5 he2 hw2.nd cp1 cp2 cp3);rw[hfb] at HL;have Hfb:=yH hfb;clear hfb he2 hw2 cp1 cp2 cp3 hfk;go_wp2_with fail
     refine HL.out.2.1.mono ?_;rintro e w4 ⟨rfl,hg4⟩;have HG4:=yH hg4;clear hg4;have hg5:Grew wr w4:=HG4.out;have hJ5:=HJ.out.at (HJ.out.bt.grew hg5) hg5.chg;have hlf5:=leaf_any bn q nd N w4 hJ5.own.at;have hld5:=bload_any t p root e2 F' y cp kd w4 hJ5.bt H2.out.2.2.1 H2.out.2.2.2.1 (yP4 H2.out);obtain⟨g1,g2,g3,g4,g5,g6,hrn⟩:=hJ5.own.at.rd
     obtain⟨gk1,off1,rfl, -,hx1⟩:=hrn.2.2.2.1.2 (by omega);have hck:=hx1 ii (.int .i64 e2) (by simp[nv,H2.out.1]);obtain⟨n9,nf9,ns9⟩:=hrn.1.facts;have H5:=yH (yA3 hlf5 hld5 hJ5);clear hg5 hlf5 hld5 hJ5 hrn hx1;go_wp2_with (go_at_call 41;(refine H5.out.1.mono ?_);rintro e w6 ⟨rfl,rfl⟩)
     refine H5.out.2.1.mono ?_;rintro e w6 ⟨b6,N6,rfl,hn6,hN6,hbt6,hc6⟩;clear hck n9 nf9 ns9;obtain⟨a1,a2,a3,a4,a5,a6,hra⟩:=hn6.at.rd;obtain⟨d9,f9,s9⟩:=hra.1.facts;have hhf:=fun W=>bhalf_any t p root F' y W;have hJ6:=H5.out.2.2.at hbt6 hc6;have H6:=yH (yA5 hJ6 hn6 hN6 hbt6 (yA hc6 hhf))
     have hh3:halfN y.sz≤300:=by have:=hbt6.gp.szs;unfold halfN mostN;omega
     clear hra hhf hJ6 hn6 hN6 hbt6 hc6;by_cases hlow:kd.keys.length< halfN y.sz
     ·have t3:(kd.keys.length:Int)< ((halfN y.sz:Nat):Int):=by omega
      have t3b:decide (((kd.keys.length:Nat):Int)< ((halfN y.sz:Nat):Int))=true:=decide_eq_true t3;go_wp2_with fail
      go_quiet ((go_at_call 71;exact Calls.quiet_of_same (((yP4 H6.out).2 _ (H6.out.2.2.2.1.grew ((Chg.refl _ _).drewN _))).mono fun _ _ h=>⟨h.1,h.2.symm⟩)))
      obtain⟨W7,hW7⟩:∃W,w6.drewN nq=W:=⟨_,rfl⟩;rw[hW7];have hg7:Grew w6 W7:=hW7▸(Chg.refl NoF w6).drewN nq;have hJ7:=H6.out.1.at (H6.out.1.bt.grew hg7) hg7.chg;have hfi:=bfill_any hJ7 H.out.2.2.1 Hfb.out HL.out.2.2.2 H2.out.1 H2.out.2.1 hlow;have H7:=yH hfi;clear hW7 hg7 hJ7 hfi d9 f9 s9;go_wp2_with fail
      refine H7.out.mono ?_;rintro e w8 ⟨b8,(⟨rfl,hr⟩ | ⟨rfl,hr⟩)⟩
      ·have HO:=yH hr
       clear hr;go_wp2_with fail
       go_roundg (d'+2)
       case measure=>omega
       case rel=>exact⟨_,b8,jj+1,k1,rfl,rfl,rfl,by simp,.inl ⟨d',rfl,rfl,by have:=HDJ.out;omega,HO.out⟩⟩
      ·have HO:=yH hr
       clear hr;go_wp2_with fail
       go_roundg 1
       case measure=>omega
       case rel=>exact⟨_,b8,jj+1,k1,rfl,rfl,rfl,by simp,.inr ⟨rfl,rfl,by have:=HDJ.out;omega,HO.out⟩⟩
     ·have t3:((halfN y.sz:Nat):Int)≤(kd.keys.length:Int):=by omega
      have t3b:decide (((kd.keys.length:Nat):Int)< ((halfN y.sz:Nat):Int))=false:=decide_eq_false (by omega);go_wp2_with fail
      go_quiet ((go_at_call 71;exact Calls.quiet_of_same (((yP4 H6.out).2 _ (H6.out.2.2.2.1.grew ((Chg.refl _ _).drewN _))).mono fun _ _ h=>⟨h.1,h.2.symm⟩)))
      obtain⟨W7,hW7⟩:∃W,w6.drewN nq=W:=⟨_,rfl⟩;rw[hW7];have hg7:Grew w6 W7:=hW7▸(Chg.refl NoF w6).drewN nq;have hdn:=H5.out.2.2.down Hfb.out (by rw[HL.out.2.2.2];exact H2.out.1) H2.out.2.1 ((yP4 H6.out).1.grew hg7) (H6.out.2.2.2.1.grew hg7) (H6.out.2.1.grew hg7) H6.out.2.2.1 (by omega);have HO:=yH hdn;clear hW7 hg7 hdn d9 f9 s9 hlow;go_wp2_with fail
      go_roundg (d'+2)
      case measure=>omega
      case rel=>exact⟨_,b6,jj+1,k1,rfl,rfl,rfl,by simp,.inl ⟨d',rfl,rfl,by have:=HDJ.out;omega,HO.out⟩⟩
end
section
open Go.RowKit
def kvV (x:KV):List Value:=[.int .i64 x.1,.int .i64 x.2]
def kvs2 (l:List KV):List Value:=l.flatMap kvV
theorem kvs2_at:∀ (l:List KV) (k:Nat) (x:KV),l[k]? =some x→(kvs2 l)[k*2]? =some (.int .i64 x.1)∧(kvs2 l)[k*2+1]? =some (.int .i64 x.2)
 | [],_,_,h=>by simp at h
 | y :: l,0,x,h=>by
  simp only[List.getElem?_cons_zero,Option.some.injEq] at h;subst h
  exact⟨rfl,rfl⟩
 | y :: l,k+1,x,h=>by
  simp only[List.getElem?_cons_succ] at h;obtain⟨h1,h2⟩:=kvs2_at l k x h;rw[show(k+1)*2=k*2+1+1 by omega];exact⟨h1,h2⟩
theorem kvs2_snoc (l:List KV) (a b:Int):kvs2 l++[.int .i64 a,.int .i64 b]=kvs2 (l++[(a,b)]):=by simp[kvs2,kvV]
theorem Sl.atKv {w:World} {A:Option Addr} {l:List KV} (h:Sl w 2 A l.length (kvs2 l)) {k:Nat} {x:KV} (hx:l[k]? =some x):∃b off,A=some ⟨b,off,none⟩∧b< w.heap.size∧w.cell? ⟨b,off+k*2,none⟩=some (.int .i64 x.1)∧w.cell? ⟨b,off+k*2+1,none⟩=some (.int .i64 x.2):=by
 have hk:k< l.length:=(List.getElem?_eq_some_iff.1 hx).1;obtain⟨b,off,hA,hb,hc⟩:=h.2 (by omega);obtain⟨h1,h2⟩:=kvs2_at l k x hx;exact⟨b,off,hA,hb,hc _ _ h1,by rw[Nat.add_assoc];exact hc _ _ h2⟩
theorem kvInfo:(prog.info? 41).map (fun i=>(i.zero,i.size,i.bytes))=some (some (.agg #[.int .i64 0,.int .i64 0]),2,16):=by kernel_rfl
theorem app_kv {w:World} {ops:Array Oper} {rest:List Oper} {o:Oper} {a:Act} {Q:Exit→Act→World→Prop} (hgd:o.guard=none) (s x:Operand)
  (ho:o.op= .call { callee:= .builtin .append,args:= #[s,x],argTypes:= #[29,29] }) (base:Nat) (v:Value) (n:Nat) (xs:List Value) (hs:a.eval s=v) (hown:w.ownsRow base 41 2 v n xs)
  (e1 e2:Int) (hx:a.eval x= .slice (some ⟨w.heap.size,0,none⟩) 1 1) (hn:n≤1000000) (hb:base≤w.heap.size)
  (h:∀v' w',w'.ownsRow base 41 2 v' (n+1) (xs++[.int .i64 e1,.int .i64 e2])→Ap w w' v v'→wpList prog ops Q rest (a.put o.dst v') w') :
  wpList prog ops Q (o :: rest) a (w.alloc (.cells #[.int .i64 e1,.int .i64 e2] 41)):=by
 obtain⟨i0,hi0,hz0,hz1,hz2⟩:=info_parts kvInfo
 refine wpList_append_own_at _ hgd s x 29 ho base 41 i0 _ 2 16 underlying29 hi0 hz0 hz1 hz2 rfl (by omega) v n xs hs (own_grew hown ((Chg.refl _ _).alloc _)) ⟨w.heap.size,0,none⟩ 1 1 [.int .i64 e1,.int .i64 e2] hx rfl (World.news_of_block (Blk.new w 41 #[.int .i64 e1,.int .i64 e2])) (by simp[Value.oneCell']) (by simp only[maxLen];omega) (by omega) (by simp;omega) ?_
 intro v1 w1 h1 h2 _ h4;exact h v1 w1 h1 ((Ap.refl _ _).push ((Chg.refl _ _).alloc _) h2 h4)
theorem putL_lt {T:List KV} {k v:Int} (h:∀x∈T,x.1< k):putL T k v=T++[(k,v)]:=by
 unfold putL;rw[filter_all fun x hx=>by simpa using h x hx,filter_none fun x hx=>by have:=h x hx;simp;omega]
theorem putL_gt {T:List KV} {k v:Int} {x:KV} (h:k< x.1):putL (T++[x]) k v=putL T k v++[x]:=by
 unfold putL;simp only[List.filter_append,List.filter_cons,List.filter_nil];rw[if_neg (by simp;omega),if_pos (by simpa using h)]
 simp
theorem putL_ge {T:List KV} {k v:Int} {x:KV} (h:∀y∈T,y.1< k) (hx:k≤x.1):putL (T++[x]) k v=T++[(k,v)]++if x.1≠k then [x] else []:=by
 unfold putL;simp only[List.filter_append,List.filter_cons,List.filter_nil];rw[filter_all (l:=T) fun y hy=>by simpa using h y hy,filter_none (l:=T) (p:=fun y=>decide (k< y.1)) fun y hy=>by have:=h y hy;simp;omega,if_neg (by simp;omega)]
 by_cases e:x.1=k
 ·rw[if_neg (by simp;omega),if_neg (by simp[e])];simp
 ·rw[if_pos (by simp;omega),if_pos e];simp
theorem xput_any (k v:Int) (l:List KV) (A:Option Addr) (c:Nat) (w:World) (hs:Sl w 2 A l.length (kvs2 l)) (hl:l.length≤100000) (hsr:Srt l) :
  Calls prog 12 #[.slice A l.length c,.int .i64 k,.int .i64 v] w fun e w'=>OwnOut w w' 41 2 (putL l k v).length (kvs2 (putL l k v)) (fun A c=> .slice A (putL l k v).length c) e:=by
 have H:=yH (yA hs hsr);clear hs hsr;go_enter func12,ntmps12
 go_wp2
 go_loopg [7,8,9] l.length (fun q o d i wr=>∃ (j:Nat) (out:List KV) (dn:Bool),q=l.length - j∧j≤l.length∧i= .int .i64 j∧d= .bool dn∧out.length≤j+1∧wr.ownsRow w.heap.size 41 2 o out.length (kvs2 out)∧Grew w wr∧
  ((dn=false∧out=l.take j∧∀x∈l.take j,x.1< k)∨(dn=true∧out=putL (l.take j) k v∧∀x∈l.drop j,k< x.1)))
 case atStart=>exact⟨0,[],false,rfl,Nat.zero_le _,rfl,rfl,by simp,World.ownsRow_nil _ _ _ _,Chg.refl _ _,.inl ⟨rfl,by simp,by simp⟩⟩
 case round=>
  obtain⟨j,out,dn,rfl,hj,rfl,rfl,hol,hown,hg,hst⟩:=hrel;have HJ:=yH (yA3 hown hg hst);have hbr:w.heap.size≤wr.heap.size:=hg.size;clear hown hg hst;by_cases hlt:j< l.length
  ·obtain⟨x,hx⟩:∃x,l[j]? =some x:=⟨_,List.getElem?_eq_getElem hlt⟩
   obtain⟨b,off,rfl,hbl,hc1,hc2⟩:=(H.out.1.grew HJ.out.2.1).atKv hx;have htk:l.take (j+1)=l.take j++[x]:=by rw[List.take_add_one,hx];rfl
   have hdr:l.drop j=x :: l.drop (j+1):=by
    obtain⟨hl,he⟩:=List.getElem?_eq_some_iff.1 hx;rw[List.drop_eq_getElem_cons hl,he]
   have HX:=yH (yA3 hx htk hdr);clear hx htk hdr
   obtain⟨st1,st2⟩:(dn=false→out=l.take j∧∀y∈l.take j,y.1< k)∧(dn=true→out=putL (l.take j) k v∧∀y∈l.drop j,k< y.1):=by
    rcases HJ.out.2.2 with ⟨rfl,h1⟩ | ⟨rfl,h1⟩
    ·exact⟨fun _=>h1,fun e=>by cases e⟩
    ·exact⟨fun e=>(by cases e),fun _=>h1⟩
   have hsd:∀y∈l.drop (j+1),x.1< y.1:=by
    have h1:=(H.out.2.sub (List.drop_sublist j l));rw[HX.out.2.2] at h1;exact(List.pairwise_cons.1 h1).1
   have HS:=yH (yA3 st1 st2 hsd);clear st1 st2 hsd
   cases dn with
   | true=>
    have hgt:k< x.1:=(HS.out.2.1 (by trivial)).2 x (by rw[HX.out.2.2];exact List.mem_cons_self);have t1:(x.1 !=k)=true:=by rw[bne_iff_ne];omega
    have Hgt:=yH hgt;clear hgt
    go_wp2_with (at_builtin;refine app_kv rfl _ _ rfl w.heap.size _ out.length (kvs2 out) rfl HJ.out.1 x.1 x.2 rfl (by omega) hbr ?_;intro v1 w3 hown1 hap1;have HO1:=yH (yA (show w3.ownsRow w.heap.size 41 2 v1 (out++[x]).length (kvs2 (out++[x])) from(by have h9:=hown1;rw[kvs2_snoc] at h9;simpa using h9)) (show Grew w w3 from hap1.grow HJ.out.2.1 fun j hj=>(HJ.out.1.lt j hj).1));clear hown1 hap1)
    go_roundg (l.length - (j+1))
    case measure=>omega
    case rel=>exact⟨j+1,out++[x],true,rfl,by omega,by simp,rfl,by simp;omega,HO1.out.1,HO1.out.2,.inr ⟨rfl,by rw[HX.out.2.1,putL_gt Hgt.out,(HS.out.2.1 (by trivial)).1],fun y hy=>by have:=HS.out.2.2 y hy;have:=Hgt.out;omega⟩⟩
   | false=>
    by_cases hge:k≤x.1
    ·have t0:decide (k≤x.1)=true:=decide_eq_true hge
     have Hge:=yH hge;by_cases heq:x.1=k
     ·have t1:(x.1 !=k)=false:=by simp[heq]
      have Heq:=yH heq;clear hge heq
      go_wp2_with (at_builtin;refine app_kv rfl _ _ rfl w.heap.size _ out.length (kvs2 out) rfl HJ.out.1 k v rfl (by omega) hbr ?_;intro v1 w3 hown1 hap1;have HO1:=yH (yA (show w3.ownsRow w.heap.size 41 2 v1 (out++[(k,v)]).length (kvs2 (out++[(k,v)])) from(by have h9:=hown1;rw[kvs2_snoc] at h9;simpa using h9)) (show Grew w w3 from hap1.grow HJ.out.2.1 fun j hj=>(HJ.out.1.lt j hj).1));have hbr3:w.heap.size≤w3.heap.size:=HO1.out.2.size;have hl3:(out++[(k,v)]).length=out.length+1:=(by simp);obtain⟨b2,off2,e2,hbl2,hd1,hd2⟩:=(H.out.1.grew HO1.out.2).atKv HX.out.1;cases e2;clear hown1 hap1)
      go_roundg (l.length - (j+1))
      case measure=>omega
      case rel=>exact⟨j+1,out++[(k,v)],true,rfl,by omega,by simp,rfl,by simp;omega,HO1.out.1,HO1.out.2,.inr ⟨rfl,by rw[HX.out.2.1,putL_ge (HS.out.1 (by trivial)).2 Hge.out,if_neg (by simp[Heq.out]),(HS.out.1 (by trivial)).1];simp,fun y hy=>by have:=HS.out.2.2 y hy;have:=Heq.out;omega⟩⟩
     ·have t1:(x.1 !=k)=true:=by rw[bne_iff_ne];exact heq
      have Heq:=yH heq;clear hge heq
      go_wp2_with (first | (at_builtin;refine app_kv rfl _ _ rfl w.heap.size _ out.length (kvs2 out) rfl HJ.out.1 k v rfl (by omega) hbr ?_;intro v1 w3 hown1 hap1;have HO1:=yH (yA (show w3.ownsRow w.heap.size 41 2 v1 (out++[(k,v)]).length (kvs2 (out++[(k,v)])) from(by have h9:=hown1;rw[kvs2_snoc] at h9;simpa using h9)) (show Grew w w3 from hap1.grow HJ.out.2.1 fun j hj=>(HJ.out.1.lt j hj).1));have hbr3:w.heap.size≤w3.heap.size:=HO1.out.2.size;have hl3:(out++[(k,v)]).length=out.length+1:=(by simp);obtain⟨b2,off2,e2,hbl2,hd1,hd2⟩:=(H.out.1.grew HO1.out.2).atKv HX.out.1;cases e2;clear hown1 hap1) | (at_builtin;refine app_kv rfl _ _ rfl w.heap.size _ (out++[(k,v)]).length (kvs2 (out++[(k,v)])) rfl HO1.out.1 x.1 x.2 rfl (by omega) hbr3 ?_;intro v2 w4 hown2 hap2;have HO2:=yH (yA (show w4.ownsRow w.heap.size 41 2 v2 (out++[(k,v)]++[x]).length (kvs2 (out++[(k,v)]++[x])) from(by have h9:=hown2;rw[kvs2_snoc] at h9;simpa using h9)) (show Grew w w4 from hap2.grow HO1.out.2 fun j hj=>(HO1.out.1.lt j hj).1));clear hown2 hap2))
      go_roundg (l.length - (j+1))
      case measure=>omega
      case rel=>exact⟨j+1,out++[(k,v)]++[x],true,rfl,by omega,by simp,rfl,by have h9:=congrArg List.length (HS.out.1 (by trivial)).1;rw[List.length_take] at h9;simp;omega,HO2.out.1,HO2.out.2,.inr ⟨rfl,by rw[HX.out.2.1,putL_ge (HS.out.1 (by trivial)).2 Hge.out,if_pos Heq.out,(HS.out.1 (by trivial)).1],fun y hy=>by have:=HS.out.2.2 y hy;have:=Hge.out;omega⟩⟩
    ·have t0:decide (k≤x.1)=false:=decide_eq_false hge
     have t1:(x.1 !=k)=true:=by rw[bne_iff_ne];omega
     have Hlt:=yH (show x.1< k by omega);clear hge
     go_wp2_with (at_builtin;refine app_kv rfl _ _ rfl w.heap.size _ out.length (kvs2 out) rfl HJ.out.1 x.1 x.2 rfl (by omega) hbr ?_;intro v1 w3 hown1 hap1;have HO1:=yH (yA (show w3.ownsRow w.heap.size 41 2 v1 (out++[x]).length (kvs2 (out++[x])) from(by have h9:=hown1;rw[kvs2_snoc] at h9;simpa using h9)) (show Grew w w3 from hap1.grow HJ.out.2.1 fun j hj=>(HJ.out.1.lt j hj).1));clear hown1 hap1)
     go_roundg (l.length - (j+1))
     case measure=>omega
     case rel=>exact⟨j+1,out++[x],false,rfl,by omega,by simp,rfl,by simp;omega,HO1.out.1,HO1.out.2,.inl ⟨rfl,by rw[HX.out.2.1,(HS.out.1 (by trivial)).1],fun y hy=>by
      rw[HX.out.2.1] at hy;rcases List.mem_append.1 hy with e | e
      ·exact(HS.out.1 (by trivial)).2 y e
      ·simp at e;subst e;exact Hlt.out⟩⟩
  ·obtain rfl:j=l.length:=by omega
   cases dn with
   | true=>
    have ho:=(HJ.out.2.2.resolve_left (by rintro⟨e, -⟩;cases e)).2.1;have HO:=yH ho;clear ho;go_wp2
    go_ret
    have e1:=HO.out;rw[List.take_length] at e1;obtain⟨A',c',rfl, -⟩:=own_shape HJ.out.1;subst e1
    exact OwnOut.mk A' c' rfl HJ.out.1 HJ.out.2.1
   | false=>
    have ho:=(HJ.out.2.2.resolve_right (by rintro⟨e, -⟩;cases e)).2;have HO:=yH ho;clear ho
    go_wp2_with (at_builtin;refine app_kv rfl _ _ rfl w.heap.size _ out.length (kvs2 out) rfl HJ.out.1 k v rfl (by omega) hbr ?_;intro v1 w3 hown1 hap1;have HO1:=yH (yA (show w3.ownsRow w.heap.size 41 2 v1 (out++[(k,v)]).length (kvs2 (out++[(k,v)])) from(by have h9:=hown1;rw[kvs2_snoc] at h9;simpa using h9)) (show Grew w w3 from hap1.grow HJ.out.2.1 fun j hj=>(HJ.out.1.lt j hj).1));clear hown1 hap1)
    go_ret
    have e1:=HO.out;rw[List.take_length] at e1;have e2:out++[(k,v)]=putL l k v:=by rw[putL_lt e1.2,e1.1]
    obtain⟨A',c',rfl, -⟩:=own_shape HO1.out.1;have e3:=HO1.out;rw[e2] at e3;exact OwnOut.mk A' c' (by rw[←e2];rfl) e3.1 e3.2
end
section
open Go.RowKit
def FdOut (l:List KV) (k r:Int):Prop:=(∃ (i:Nat) (x:KV),r=i∧l[i]? =some x∧x.1=k)∨(r= -1∧∀x∈l,x.1≠k)
theorem xfind_any (k:Int) (l:List KV) (A:Option Addr) (c:Nat) (w:World) (hs:Sl w 2 A l.length (kvs2 l)) (hl:l.length≤100000) :
  Calls prog 30 #[.slice A l.length c,.int .i64 k] w fun e w'=>∃r,e= .returned (.int .i64 r)∧FdOut l k r∧w=w':=by
 have H:=yH hs;clear hs;go_enter func30,ntmps30
 go_wp2
 go_loopg [5] l.length (fun q i wr=>∃j,q=l.length - j∧j≤l.length∧i= .int .i64 j∧w=wr∧∀x∈l.take j,x.1≠k)
 case atStart=>exact⟨0,rfl,Nat.zero_le _,rfl,rfl,by simp⟩
 case round=>
  obtain⟨j,rfl,hj,rfl,rfl,hn⟩:=hrel;have HN:=yH hn;clear hn;by_cases hlt:j< l.length
  ·obtain⟨x,hx⟩:∃x,l[j]? =some x:=⟨_,List.getElem?_eq_getElem hlt⟩
   obtain⟨b,off,rfl,hbl,hc1,hc2⟩:=H.out.atKv hx;have HX:=yH hx;clear hx;by_cases he:x.1=k
   ·have t1:(x.1==k)=true:=by simp[he]
    have He:=yH he;clear he;go_wp2
    refine bodyPost_ret (v:= .int .i64 j) (by simp[results,results30,go_sem]) rfl ?_;exact⟨j,rfl,.inl ⟨j,x,rfl,HX.out,He.out⟩,rfl⟩
   ·have t1:(x.1==k)=false:=by simp[he]
    have He:=yH he;clear he;go_wp2
    go_roundg (l.length - (j+1))
    case measure=>omega
    case rel=>exact⟨j+1,rfl,by omega,by simp,rfl,fun y hy=>by
     rw[List.take_add_one,HX.out] at hy;rcases List.mem_append.1 hy with e | e
     ·exact HN.out y e
     ·simp at e;subst e;exact He.out⟩
  ·obtain rfl:j=l.length:=by omega
   rw[List.take_length] at HN;clear hlt hj;go_wp2
   go_ret
   exact⟨-1,rfl,.inr ⟨rfl,HN.out⟩,rfl⟩
theorem xdel_any (k:Int) (l:List KV) (A:Option Addr) (c:Nat) (w:World) (hs:Sl w 2 A l.length (kvs2 l)) (hl:l.length≤100000) :
  Calls prog 28 #[.slice A l.length c,.int .i64 k] w fun e w'=>OwnOut w w' 41 2 (delL l k).length (kvs2 (delL l k)) (fun A c=> .slice A (delL l k).length c) e:=by
 have H:=yH hs;clear hs;go_enter func28,ntmps28
 go_wp2
 go_loopg [5,6] l.length (fun q o i wr=>∃j,q=l.length - j∧j≤l.length∧i= .int .i64 j∧wr.ownsRow w.heap.size 41 2 o (delL (l.take j) k).length (kvs2 (delL (l.take j) k))∧Grew w wr)
 case atStart=>exact⟨0,rfl,Nat.zero_le _,rfl,by simpa [delL,kvs2] using World.ownsRow_nil _ _ _ _,Chg.refl _ _⟩
 case round=>
  obtain⟨j,rfl,hj,rfl,hown,hg⟩:=hrel;have hbr:w.heap.size≤wr.heap.size:=hg.size;have HJ:=yH (yA hown hg);clear hown hg;by_cases hlt:j< l.length
  ·obtain⟨x,hx⟩:∃x,l[j]? =some x:=⟨_,List.getElem?_eq_getElem hlt⟩
   obtain⟨b,off,rfl,hbl,hc1,hc2⟩:=(H.out.grew HJ.out.2).atKv hx
   have htk:delL (l.take (j+1)) k=delL (l.take j) k++if x.1≠k then [x] else []:=by
    rw[List.take_add_one,hx,delL_app];congr 1
    by_cases e:x.1=k<;>simp[delL,e]
   obtain⟨out,hout⟩:∃o,delL (l.take j) k=o:=⟨_,rfl⟩;have hol:out.length≤100000:=by rw[←hout];have h1:=List.length_filter_le (fun x:KV=>decide (x.1≠k)) (l.take j);unfold delL;rw[List.length_take] at h1;omega
   rw[hout] at HJ htk;have HT:=yH htk;clear htk hx hout;by_cases he:x.1=k
   ·have t1:(x.1 !=k)=false:=by simp[he]
    have He:=yH he;clear he;go_wp2
    go_roundg (l.length - (j+1))
    case measure=>omega
    case rel=>exact⟨j+1,rfl,by omega,by simp,by rw[HT.out,if_neg (by simp[He.out]),List.append_nil];exact HJ.out.1,HJ.out.2⟩
   ·have t1:(x.1 !=k)=true:=by rw[bne_iff_ne];exact he
    have He:=yH he;clear he
    go_wp2_with (at_builtin;refine app_kv rfl _ _ rfl w.heap.size _ out.length (kvs2 out) rfl HJ.out.1 x.1 x.2 rfl (by omega) hbr ?_;intro v1 w3 hown1 hap1;have HO1:=yH (yA (show w3.ownsRow w.heap.size 41 2 v1 (out++[x]).length (kvs2 (out++[x])) from(by have h9:=hown1;rw[kvs2_snoc] at h9;simpa using h9)) (show Grew w w3 from hap1.grow HJ.out.2 fun j hj=>(HJ.out.1.lt j hj).1));clear hown1 hap1)
    go_roundg (l.length - (j+1))
    case measure=>omega
    case rel=>exact⟨j+1,rfl,by omega,by simp,by rw[HT.out,if_pos He.out];exact HO1.out.1,HO1.out.2⟩
  ·obtain rfl:j=l.length:=by omega
   rw[List.take_length] at HJ;obtain⟨A',c',rfl, -⟩:=own_shape HJ.out.1;clear hlt hj;go_wp2
   go_ret
   exact OwnOut.mk A' c' rfl HJ.out.1 HJ.out.2
end
section
open Go.RowKit Go.Maps
theorem bput2_any (t p root D0:Nat) (k v:Int) (L:List KV) (P:List Nat) (F:Nat→Prop) (x:Rp) (w:World) (hb:BT w t p root F x) (ho:x.was≠none) (hs:TS x D0 root L P) (hl:L.length≤1000) (hk:i64 k) (hv:i64 v) :
  Calls prog 11 #[.pointer (some ⟨t,0,none⟩),.int .i64 k,.int .i64 v] w fun e w'=>PuOut w w' t p root F x D0 k v L e:=by
 have hz:=hb.gp.szs;have hh:=half_two hz.2.2.1;have hD:=hs.depth hh hl;have hway:=bway_any t p root (halfN x.sz) D0 k L P F x w hb hs.tr hs.srt (by omega);have H:=yH (yA5 hb ho hs hl (yA5 hk hv hz hh (yA hD hway)));clear hb ho hs hl hk hv hz hh hD hway;go_enter func11,ntmps11
 go_wp2_with fail
 refine(yP8 H.out).2.mono ?_;rintro e w1 ⟨b,N,d,q,nd,A,M,B,P1,PM,P2,rfl,hnd,hNn,hbt,hc1,hw,hor⟩;have hg:=hw.get H.out.2.2.1.srt H.out.2.2.1.nd;obtain⟨fb,hfb⟩:∃f,nd.keys.contains k=f:=⟨_,rfl⟩;obtain⟨ii,hii⟩:∃i,atI nd.keys k=i:=⟨_,rfl⟩;rw[hfb,hii] at hg ⊢;have HN:=yH (yA5 hnd hNn hw hfb hii);clear hnd hNn hw hii
 cases fb with
 | true=>
  obtain⟨v0,hv0, -⟩:=hg.1 rfl;have hil:=(List.getElem?_eq_some_iff.1 hv0).1;obtain⟨gv,ck,cv,cc,Ak,Ac,bB,hgN,hgl,⟨u,hcu⟩,hfr,hset⟩:=HN.out.1.setVal hil;obtain⟨W2,hW2⟩:∃W,w1.setCell ⟨gv,ii,none⟩ (.int .i64 v)=W:=⟨_,rfl⟩;obtain⟨hn2,hc2⟩:=hset v W2 hW2;have hz1:=hc1.size;have hpos:=tab_pos H.out.1.gp.tab;have htl:=H.out.1.blk.lt
  have hNF:∀j,N j→¬F j:=fun j hj e=>by have:=HN.out.2.1 j hj;have:=H.out.1.gp.lt j e;omega
  have hbt2:BT W2 t p root F x:=hbt.chg hc2 (fun j hj e=>hNF j e hj) (fun e=>by have:=HN.out.2.1 _ e;omega) (fun e=>by have:=HN.out.2.1 _ e;omega);have hft:=(H.out.1.gp.fit HN.out.2.2.1.nd).1
  have hfit:({ nd with vals:=nd.vals.set ii v }:Nd).Fit x.sz:=⟨by simp only[List.length_set];exact hft.vals,hft.most,hft.kids,hft.ki,fun a ha=>(List.mem_or_eq_of_mem_set ha).elim (hft.vi a) fun e=>e▸(yP4 H.out).2.1,hft.ci⟩;obtain⟨cq,q1,q2⟩:=H.out.2.2.1.pgs q HN.out.2.2.1.q_mem;have hNb:N b:=by obtain⟨_,_,_,_,_,_, -, -, -, -,hNb, -⟩:=HN.out.1.at;exact hNb
  have hsv:=bsave_any t p root b q F N x cq { nd with vals:=nd.vals.set ii v } W2 hbt2 hn2.at hfit H.out.2.1 q1 q2 (hNF b hNb);obtain⟨d9,f9,s9⟩:=bB.facts;have H2:=yH (yA5 hsv hW2 hbt2 hfit (yA3 (show Chg F w W2 from Chg.trans hc1 hc2 fun j hj e=>by have:=HN.out.2.1 j e;omega) q1 q2));have hiN:(ii:Int)< (nd.vals.length:Int):=by omega
  clear hsv hW2 hbt2 hfit hft hNF hn2 hc2 hset bB q1 q2 hg hv0 hor hbt hNb hfb;go_wp2_with fail
  rw[H2.out.2.1];refine H2.out.1.mono ?_;rintro e w' (⟨rfl,hto⟩ | ⟨hns, -,rfl,hg⟩)
  ·have hout:PuOut w w' t p root F x D0 k v L (.returned (.int .i64 0)):=by
    obtain⟨F2,h1,h2,h3⟩:=hto;obtain⟨-, -, -,hfit,hcW,q1,q2⟩:=H2.out;have hsz:=hcW.size;have ht:=HN.out.2.2.1.upd (v:=v) (rd':=(x.put q (.new (ndL { nd with vals:=nd.vals.set ii v } x.sz))).nd) H.out.2.2.1.srt H.out.2.2.1.nd HN.out.2.2.2.1 (by rw[(yP4 HN.out)];exact Rp.nd_new hfit (List.getElem?_eq_some_iff.1 q1).1 (yP6 H.out).1.2.2.2.1) fun i _ hi=>Rp.nd_other hi
    exact .inl ⟨rfl,_,F2,D0,P,h1,⟨Chg.trans hcW h2 fun _ _ e=>e,fun j hj=>(h3 j hj).imp id fun e=>by omega⟩,x.put_like _ _,H.out.2.2.1.write HN.out.2.2.1.q_mem ht (putL_srt H.out.2.2.1.srt k v)⟩
   have HO:=yH hout;clear hout hto;go_wp2_with fail
   go_ret
   exact HO.out
  ·have hout:PuOut w w' t p root F x D0 k v L (.returned (.int .i64 21)):= .inr ⟨rfl,x,⟨F,H2.out.2.2.1.grew hg,(yP4 H2.out).1.grew hg,fun _ e=> .inl e⟩,Rp.like.refl x,by omega,fun e=>hns e.1⟩
   have HO:=yH hout;clear hout hns hg;go_wp2_with fail
   go_ret
   exact HO.out
 | false =>
  have hget:getK L k=none:=hg.2 rfl (hor.resolve_left (by rw[HN.out.2.2.2.1];simp));obtain⟨ndR,hwR⟩:=WayAt.start (k:=k) H.out.2.2.1.tr;obtain⟨cr,r1,r2,r3⟩:=Rp.nd_some hwR.nd;have hklR:ndR.keys.length≤300:=by have h1:=(H.out.1.gp.fit hwR.nd).1.most;have h2:=H.out.1.gp.szs;unfold mostN at h1;omega
  have hld:=bload_any t p root root F x cr ndR w1 hbt r1 r2 r3;obtain⟨c0,f0,s0⟩:=hbt.blk.facts;have H1:=yH (yA4 hwR hc1 hld hget);clear hget hwR r1 r2 r3 hld hc1 hbt hg hor;go_wp2_with fail
  refine H1.out.2.2.1.mono ?_;rintro e w2 ⟨b2,N2,rfl,hnd2,hN2,hbt2,hc2⟩;have hfu:=bfull_any t p root b2 root F N2 x ndR w2 hbt2 hnd2.at hklR;have HF2:=yH (yA5 hfu hnd2 hN2 hbt2 hc2);clear hfu hnd2 hN2 hbt2 hc2 c0 f0 s0;go_wp2_with fail
  by_cases hfull:2*halfN x.sz - 1≤ndR.keys.length
  ·have t5:decide (2*halfN x.sz - 1≤ndR.keys.length)=true:=decide_eq_true hfull
   have t6:decide (2*halfN x.sz≤ndR.keys.length+1)=true:=decide_eq_true (by omega);refine HF2.out.1.mono ?_;rintro e w3 ⟨rfl,hg3⟩;have hz1:=H1.out.2.1.size;have hz2:=(yP4 HF2.out).size;have hz3:=hg3.size;have hpos:=tab_pos H.out.1.gp.tab;have htl:=H.out.1.blk.lt
   have hnode:ndR.keys.length=2*halfN x.sz - 1:=by
    obtain⟨nd',g1, -,g2, -⟩:=H1.out.1.tr.node;rw[H1.out.1.nd] at g1
    cases g1
    omega
   have hgr:=bgrow_any t p root b2 D0 L P F N2 x ndR w3 (HF2.out.2.2.2.1.grew hg3) H.out.2.1 H.out.2.2.1 (HF2.out.2.1.grew hg3) H1.out.1.nd hnode (fun j hj e=>by have:=HF2.out.2.2.1 j hj;have:=H.out.1.gp.lt j e;omega) ⟨fun e=>by have:=HF2.out.2.2.1 _ e;omega,fun e=>by have:=HF2.out.2.2.1 _ e;omega⟩
   have hcW:Chg F w w3:=(Chg.trans H1.out.2.1 (yP4 HF2.out) fun _ _ e=>e).grew hg3;have H3:=yH (yA hgr hcW);clear hgr hcW hnode hg3 hfull;go_wp2_with fail
   refine H3.out.1.mono ?_;rintro e w4 (⟨b5,N5,nd5,F5,y5,P5,rfl,k1,k2,k3,k4,k5,k6,k7,k8,k9,k10,k11⟩ | ⟨v5,rfl,hfu⟩)
   ·obtain⟨nd6,hw6⟩:=WayAt.start (k:=k) k7.tr
    obtain rfl:nd6=nd5:=by have:=hw6.nd;rw[k9] at this;cases this;rfl
    have hJ0:PuJ w w4 t p root F x k L b5 (D0+1) root nd6 F5 y5 (D0+1) P5 [] L [] [] P5 [] N5 D0:=⟨k1,⟨Chg.trans H3.out.2 k2 fun j hj e=>e.resolve_right fun e=>by have:=HF2.out.2.2.1 j e;omega,fun j hj=>(k3 j hj).imp id fun e=>by omega⟩,k8,k7,hw6,k4,k5,fun j hj=>by have:=k6 j hj;omega,by have:=half_two k1.gp.szs.2.2.1;omega,by omega,by have:=(yP8 H.out).1;omega,htl⟩
    obtain⟨d0,hd0⟩:∃d0,D0+1=d0:=⟨_,rfl⟩;rw[hd0] at hJ0;have HJ0:=yH hJ0;clear hJ0 hd0 k1 k2 k3 k4 k5 k6 k7 k8 k9 k10 k11 hw6 hz1 hz2 hz3 hpos htl;go_wp2_with fail
    go_loopg [11,12] (d0+1) (fun m n e wr=>∃ (bn d q:Nat) (nd:Nd) (F':Nat→Prop) (y:Rp) (D:Nat) (P:List Nat) (A M B:List KV) (P1 PM P2:List Nat) (N:Nat→Prop),m=d+1∧n= .pointer (some ⟨bn,0,none⟩)∧e= .int .i64 0∧PuJ w wr t p root F x k L bn d q nd F' y D P A M B P1 PM P2 N D0)
    case atStart=>exact⟨_,d0,_,_,_,_,_,_,_,_,_,_,_,_,_,rfl,rfl,rfl,HJ0.out⟩
    case round=>
     obtain⟨bn,d,q,nd,F',y,D,P,A,M,B,P1,PM,P2,N,rfl,rfl,rfl,hJ⟩:=hrel;have HJ:=yH hJ;have hkl:nd.keys.length≤300:=by have h1:=(hJ.bt.gp.fit hJ.way.nd).1.most;have h2:=hJ.bt.gp.szs;unfold mostN at h1;omega
     have hlf:=leaf_any bn q nd N wr hJ.own.at;have hks:=hJ.way.tr.keys hJ.way.nd (hJ.way.srt hJ.ts.srt);have hpl:=bplace_any bn q nd N k wr hJ.own.at hks (by omega);have hmiss:=hJ.way.miss H1.out.2.2.2;obtain⟨ii,hii⟩:∃i,atI nd.keys k=i:=⟨_,rfl⟩;rw[hmiss,hii] at hpl;have HL:=yH (yA4 hlf hpl hmiss hii);clear hlf hpl hks hmiss hii hJ;by_cases h0:nd.kids.length=0
     ·have t1:decide (nd.kids.length=0)=true:=decide_eq_true h0
      obtain rfl:d=0:=by
       obtain⟨nd',g1, -, -,g2⟩:=HJ.out.way.tr.node;rw[HJ.out.way.nd] at g1
       cases g1
       exact g2.1 h0
      go_wp2_with (go_at_call 41;(refine HL.out.1.mono ?_);rintro e w5 ⟨rfl,rfl⟩)
      refine HL.out.2.1.mono ?_;rintro e w4 ⟨rfl,hg4⟩;have H4:=yH (yA4 trivial hg4 HL.out.2.2.1 HL.out.2.2.2);clear hg4;obtain⟨vk,vv,vc,hV⟩:=(HJ.out.own.grew H4.out.2.1).v;have hne:=hV.ne;have HV:=yH hV;have hS:w4.drew.cell? ⟨bn,1,none⟩=some vk∧w4.drew.cell? ⟨bn,2,none⟩=some vv:=⟨hV.blk.drew.cell 1,hV.blk.drew.cell 2⟩
      have hiil:ii≤nd.keys.length:=by rw[←H4.out.2.2.2];exact atI_le _ _
      have hvl:nd.vals.length=nd.keys.length:=(HJ.out.bt.gp.fit HJ.out.way.nd).1.vals;have hp4:1≤w4.heap.size:=by have:=tab_pos H.out.1.gp.tab;have:=HJ.out.rch.chg.size;have:=H4.out.2.1.size;omega
      have hkc:nd.kids=[]:=List.eq_nil_of_length_eq_zero h0;have HP:=yH (yA5 hne hiil hvl hp4 (yA hkl hkc));clear hV hne hiil hvl hp4 hkc;go_wp2_with fail
      refine wp_region_x [1,10,11,12,14,15,20,21,22,23] (S:=fun w'=>w'.cell? ⟨bn,1,none⟩=some vk∧w'.cell? ⟨bn,2,none⟩=some vv) (by kernel_rfl) hS (fun hHeld=>?_);refine Todo.out (is:=[1,10,11,12,14,15]) ?_
      repeat
       refine tkP (v:=?_) rfl (Or.inl ⟨by rfl,?_⟩) ?_;rotate_left
       ·(intro w hSw;go_simp)<;>with_reducible rfl
       (try simp only[Act.put,lZ])
      refine Todo.fin ?_;refine wpAnyX_mono (X':=[20,21,22,23]) (fun i hi=>by simp at hi ⊢;omega) _ _ _ _ ?_;refine Todo.out (is:=[0,2,3,4,5,6,7,13]) ?_
      repeat
       refine tkX (v:=?_) rfl (Or.inl ⟨by rfl,?_⟩) hHeld ?_;rotate_left
       ·(intro w hSw;(try dsimp only at hSw);go_simp)<;>with_reducible rfl
       (try simp only[Act.put,lZ])
      refine Todo.fin ?_;refine wpAnyX_ready (rs:=[8,16]) (by kernel_rfl) (by simp) ?_;refine AllReadyX.cons rfl (fun K hK=>?_) (AllReadyX.cons rfl (fun K hK=>?_) AllReadyX.nil)
      focus
       go_simp;obtain⟨W6,hW6⟩:∃W,(w4.alloc (.cells #[.int .i64 k] 3)).drew=W:=⟨_,rfl⟩;rw[hW6];have gW6:Grew w4 W6:=hW6▸((Chg.refl NoF w4).alloc _).drew;have lW6:Blk W6 w4.heap.size 3 #[.int .i64 k]:=hW6▸(Blk.new w4 _ _).drew;have hR6:=HV.out.rws.grew gW6;have hB6:=HV.out.blk.grew gW6
       refine hK.out _ _ (fun _=>(⟨(hB6).cell 1,(hB6).cell 2⟩:W6.cell? ⟨bn,1,none⟩=some vk∧W6.cell? ⟨bn,2,none⟩=some vv)) ?_;clear hK K;(try simp only[Act.put,lZ])
       refine wpAnyX_ready (rs:=[9,16]) (by kernel_rfl) (by simp) ?_;refine AllReadyX.cons rfl (fun K hK=>?_) (AllReadyX.cons rfl (fun K hK=>?_) AllReadyX.nil)
       focus
        go_simp;refine(insK hR6 (by omega) HP.out.2.1 lW6 (fun e=>by have:=HV.out.lt _ (HV.out.nk _ e);have:=gW6.size;omega) (by have:=HP.out.2.2.2.1;have:=gW6.size;(try have:=gW8.size);omega)).mono ?_;rintro e w7 ⟨A7,c7,rfl,hR7,ha7⟩;have hB7:=hB6.chg ha7.chg HP.out.1.1
        refine hK.out _ _ (fun _=>(⟨(hB7).cell 1,(hB7).cell 2⟩:w7.cell? ⟨bn,1,none⟩=some vk∧w7.cell? ⟨bn,2,none⟩=some vv)) ?_;clear hK K;(try simp only[Act.put,lZ])
        refine rdX (i:=16) (by kernel_rfl) rfl fun K hK=>?_;go_simp;obtain⟨W8,hW8⟩:∃W,w7.alloc (.cells #[.int .i64 v] 3)=W:=⟨_,rfl⟩;rw[hW8];have gW8:Grew w7 W8:=hW8▸(Chg.refl NoF w7).alloc _;have lW8:Blk W8 w7.heap.size 3 #[.int .i64 v]:=hW8▸Blk.new w7 _ _;have hR8:=hR7.grew gW8;have hB8:=hB7.grew gW8
        refine hK.out _ _ (fun _=>(⟨(hB8).cell 1,(hB8).cell 2⟩:W8.cell? ⟨bn,1,none⟩=some vk∧W8.cell? ⟨bn,2,none⟩=some vv)) ?_;clear hK K;(try simp only[Act.put,lZ])
        refine rdX (i:=17) (by kernel_rfl) rfl fun K hK=>?_;go_simp;refine(insV hR8 (by have:=HP.out.2.2.1;omega) (by have:=HP.out.2.2.1;have:=HP.out.2.1;omega) lW8 (fun e=>by have:=hR7.lt _ (hR7.nv _ e);omega) (by have:=HP.out.2.2.2.1;have:=ha7.chg.size;have:=gW6.size;have:=gW8.size;omega)).mono ?_;rintro e w10 ⟨A10,c10,rfl,hR10,ha10⟩
        have hB10:=hB8.chg ha10.chg HP.out.1.2.1;have hC10:Chg N w4 w10:=Chg.trans (Grew.then gW6 (ha7.chg.mono fun j _ e=>HV.out.nk j e)) (Grew.then gW8 (ha10.chg.mono fun j _ e=>HV.out.nv j e)) fun _ _ e=>e
        have HF:=yH (show Rws w10 (fun j=>(N j∨(Value.slice A7 (nd.keys.length+1) c7).ownBlock=some j)∨(Value.slice A10 (nd.vals.length+1) c10).ownBlock=some j) (.slice A7 (nd.keys.length+1) c7) (.slice A10 (nd.vals.length+1) c10) vc (iv (insI nd.keys ii k)) (iv (insI nd.vals ii v)) (nv [])∧Blk w10 bn 73 #[.int .i64 q,vk,vv,vc]∧Chg N w4 w10 from⟨(yP4 HP.out).2▸hR10,hB10,hC10⟩)
        clear hR10 hB10 hC10;clear hR6 hB6 hR7 ha7 hB7 hR8 hB8 ha10 lW6 lW8 gW6 gW8 hW6 hW8
       rotate_left
       focus
        go_simp;obtain⟨W8,hW8⟩:∃W,W6.alloc (.cells #[.int .i64 v] 3)=W:=⟨_,rfl⟩;rw[hW8];have gW8:Grew W6 W8:=hW8▸(Chg.refl NoF W6).alloc _;have lW8:Blk W8 W6.heap.size 3 #[.int .i64 v]:=hW8▸Blk.new W6 _ _;have hR8:=hR6.grew gW8;have hB8:=hB6.grew gW8
        refine hK.out _ _ (fun _=>(⟨(hB8).cell 1,(hB8).cell 2⟩:W8.cell? ⟨bn,1,none⟩=some vk∧W8.cell? ⟨bn,2,none⟩=some vv)) ?_;clear hK K;(try simp only[Act.put,lZ])
        refine rdX (i:=9) (by kernel_rfl) rfl fun K hK=>?_;go_simp;refine(insK hR8 (by omega) HP.out.2.1 (lW6.grew gW8) (fun e=>by have:=HV.out.lt _ (HV.out.nk _ e);have:=gW6.size;omega) (by have:=HP.out.2.2.2.1;have:=gW6.size;(try have:=gW8.size);omega)).mono ?_;rintro e w9 ⟨A7,c7,rfl,hR9,ha9⟩;have hB9:=hB8.chg ha9.chg HP.out.1.1
        have hl9:=lW8.chg ha9.chg fun e=>by have:=HV.out.lt _ (HV.out.nk _ e);have:=gW6.size;omega
        refine hK.out _ _ (fun _=>(⟨(hB9).cell 1,(hB9).cell 2⟩:w9.cell? ⟨bn,1,none⟩=some vk∧w9.cell? ⟨bn,2,none⟩=some vv)) ?_;clear hK K;(try simp only[Act.put,lZ])
        refine rdX (i:=17) (by kernel_rfl) rfl fun K hK=>?_;go_simp;refine(insV hR9 (by have:=HP.out.2.2.1;omega) (by have:=HP.out.2.2.1;have:=HP.out.2.1;omega) hl9 (fun e=>by have:=HV.out.lt _ (HV.out.nv _ e);have:=gW6.size;omega) (by have:=HP.out.2.2.2.1;have:=ha9.chg.size;have:=gW6.size;have:=gW8.size;omega)).mono ?_
        rintro e w10 ⟨A10,c10,rfl,hR10,ha10⟩;have hB10:=hB9.chg ha10.chg HP.out.1.2.1;have hC10:Chg N w4 w10:=Chg.trans (Grew.then (Grew.trans gW6 gW8) (ha9.chg.mono fun j _ e=>HV.out.nk j e)) (ha10.chg.mono fun j _ e=>HV.out.nv j e) fun _ _ e=>e
        have HF:=yH (show Rws w10 (fun j=>(N j∨(Value.slice A7 (nd.keys.length+1) c7).ownBlock=some j)∨(Value.slice A10 (nd.vals.length+1) c10).ownBlock=some j) (.slice A7 (nd.keys.length+1) c7) (.slice A10 (nd.vals.length+1) c10) vc (iv (insI nd.keys ii k)) (iv (insI nd.vals ii v)) (nv [])∧Blk w10 bn 73 #[.int .i64 q,vk,vv,vc]∧Chg N w4 w10 from⟨(yP4 HP.out).2▸hR10,hB10,hC10⟩)
        clear hR10 hB10 hC10;clear hR6 hB6 hR8 hB8 hR9 ha9 hB9 hl9 ha10 lW6 lW8 gW6 gW8 hW6 hW8
      rotate_left 2
      focus
       go_simp;obtain⟨W6,hW6⟩:∃W,(w4.alloc (.cells #[.int .i64 v] 3)).drew=W:=⟨_,rfl⟩;rw[hW6];have gW6:Grew w4 W6:=hW6▸((Chg.refl NoF w4).alloc _).drew;have lW6:Blk W6 w4.heap.size 3 #[.int .i64 v]:=hW6▸(Blk.new w4 _ _).drew;have hR6:=HV.out.rws.grew gW6;have hB6:=HV.out.blk.grew gW6
       refine hK.out _ _ (fun _=>(⟨(hB6).cell 1,(hB6).cell 2⟩:W6.cell? ⟨bn,1,none⟩=some vk∧W6.cell? ⟨bn,2,none⟩=some vv)) ?_;clear hK K;(try simp only[Act.put,lZ])
       refine rdX (i:=8) (by kernel_rfl) rfl fun K hK=>?_;go_simp;obtain⟨W8,hW8⟩:∃W,W6.alloc (.cells #[.int .i64 k] 3)=W:=⟨_,rfl⟩;rw[hW8];have gW8:Grew W6 W8:=hW8▸(Chg.refl NoF W6).alloc _;have lW8:Blk W8 W6.heap.size 3 #[.int .i64 k]:=hW8▸Blk.new W6 _ _;have hR8:=hR6.grew gW8;have hB8:=hB6.grew gW8
       refine hK.out _ _ (fun _=>(⟨(hB8).cell 1,(hB8).cell 2⟩:W8.cell? ⟨bn,1,none⟩=some vk∧W8.cell? ⟨bn,2,none⟩=some vv)) ?_;clear hK K;(try simp only[Act.put,lZ])
       refine rdX (i:=9) (by kernel_rfl) rfl fun K hK=>?_;go_simp;refine(insK hR8 (by omega) HP.out.2.1 lW8 (fun e=>by have:=HV.out.lt _ (HV.out.nk _ e);have:=gW6.size;omega) (by have:=HP.out.2.2.2.1;have:=gW6.size;(try have:=gW8.size);omega)).mono ?_;rintro e w9 ⟨A7,c7,rfl,hR9,ha9⟩;have hB9:=hB8.chg ha9.chg HP.out.1.1
       have hl9:=(lW6.grew gW8).chg ha9.chg fun e=>by have:=HV.out.lt _ (HV.out.nk _ e);have:=gW6.size;omega
       refine hK.out _ _ (fun _=>(⟨(hB9).cell 1,(hB9).cell 2⟩:w9.cell? ⟨bn,1,none⟩=some vk∧w9.cell? ⟨bn,2,none⟩=some vv)) ?_;clear hK K;(try simp only[Act.put,lZ])
       refine rdX (i:=17) (by kernel_rfl) rfl fun K hK=>?_;go_simp;refine(insV hR9 (by have:=HP.out.2.2.1;omega) (by have:=HP.out.2.2.1;have:=HP.out.2.1;omega) hl9 (fun e=>by have:=HV.out.lt _ (HV.out.nv _ e);have:=gW6.size;omega) (by have:=HP.out.2.2.2.1;have:=ha9.chg.size;have:=gW6.size;have:=gW8.size;omega)).mono ?_
       rintro e w10 ⟨A10,c10,rfl,hR10,ha10⟩;have hB10:=hB9.chg ha10.chg HP.out.1.2.1;have hC10:Chg N w4 w10:=Chg.trans (Grew.then (Grew.trans gW6 gW8) (ha9.chg.mono fun j _ e=>HV.out.nk j e)) (ha10.chg.mono fun j _ e=>HV.out.nv j e) fun _ _ e=>e
       have HF:=yH (show Rws w10 (fun j=>(N j∨(Value.slice A7 (nd.keys.length+1) c7).ownBlock=some j)∨(Value.slice A10 (nd.vals.length+1) c10).ownBlock=some j) (.slice A7 (nd.keys.length+1) c7) (.slice A10 (nd.vals.length+1) c10) vc (iv (insI nd.keys ii k)) (iv (insI nd.vals ii v)) (nv [])∧Blk w10 bn 73 #[.int .i64 q,vk,vv,vc]∧Chg N w4 w10 from⟨(yP4 HP.out).2▸hR10,hB10,hC10⟩)
       clear hR10 hB10 hC10;clear hR6 hB6 hR8 hB8 hR9 ha9 hB9 hl9 ha10 lW6 lW8 gW6 gW8 hW6 hW8
      all_goals
       have hb10:=HF.out.2.1;obtain⟨d9,f9,s9⟩:=hb10.facts;have hS10:w10.cell? ⟨bn,1,none⟩=some vk∧w10.cell? ⟨bn,2,none⟩=some vv:=⟨hb10.cell 1,hb10.cell 2⟩;refine hK.out _ _ (fun _=>hS10) ?_;clear hK K;(try simp only[Act.put,lZ])
       refine rdX (i:=18) (by kernel_rfl) rfl fun K hK=>?_;go_simp;refine hK.out _ _ (fun _=>hS10) ?_;clear hK K;(try simp only[Act.put,lZ])
       refine rdX (i:=19) (by kernel_rfl) rfl fun K hK=>?_;go_simp;refine hK.out _ _ (fun _=>hS10) ?_;clear hK K;(try simp only[Act.put,lZ])
       refine rdX (i:=20) (by kernel_rfl) rfl fun K hK=>?_;go_simp;obtain⟨W11,hW11⟩:∃W,w10.setCell ⟨bn,1,none⟩ (.slice A7 (nd.keys.length+1) c7)=W:=⟨_,rfl⟩;rw[hW11]
       have hb11:Blk W11 bn 73 #[.int .i64 q,.slice A7 (nd.keys.length+1) c7,vv,vc]:=by
        have h9:=hb10.put 1 (.slice A7 (nd.keys.length+1) c7);rw[hW11] at h9;simpa using h9
       have hc11:Chg (fun j=>j=bn) w10 W11:=hW11▸(Chg.refl (fun j=>j=bn) w10).setCell (p:=⟨bn,1,none⟩) (fun _=>rfl) _;clear d9 f9 s9 hS10 hb10 hW11;obtain⟨d9,f9,s9⟩:=hb11.facts;refine hK.out _ _ (fun h=>by cases h) ?_;clear hK K;(try simp only[Act.put,lZ])
       refine rdX (i:=21) (by kernel_rfl) rfl fun K hK=>?_;go_simp;refine hK.out _ _ (fun h=>by cases h) ?_;clear hK K;(try simp only[Act.put,lZ])
       refine rdX (i:=22) (by kernel_rfl) rfl fun K hK=>?_;go_simp;refine hK.out _ _ (fun h=>by cases h) ?_;clear hK K;(try simp only[Act.put,lZ])
       refine rdX (i:=23) (by kernel_rfl) rfl fun K hK=>?_;go_simp;obtain⟨W12,hW12⟩:∃W,W11.setCell ⟨bn,2,none⟩ (.slice A10 (nd.vals.length+1) c10)=W:=⟨_,rfl⟩;rw[hW12]
       have hb12:Blk W12 bn 73 #[.int .i64 q,.slice A7 (nd.keys.length+1) c7,.slice A10 (nd.vals.length+1) c10,vc]:=by
        have h9:=hb11.put 2 (.slice A10 (nd.vals.length+1) c10);rw[hW12] at h9;simpa using h9
       have hc12:Chg (fun j=>j=bn) w10 W12:=Chg.trans hc11 (hW12▸(Chg.refl (fun j=>j=bn) W11).setCell (p:=⟨bn,2,none⟩) (fun _=>rfl) _) fun _ _ e=>e;clear d9 f9 s9 hW12 hb11 hc11;refine hK.out _ _ (fun h=>by cases h) ?_;clear hK K;(try simp only[Act.put,lZ])
       refine wpAnyX_done (by kernel_rfl) ?_ _;have hbn10:=HF.out.2.1
       have hn12:NdOwn W12 (fun j=>(N j∨(Value.slice A7 (nd.keys.length+1) c7).ownBlock=some j)∨(Value.slice A10 (nd.vals.length+1) c10).ownBlock=some j) bn q ⟨insI nd.keys ii k,insI nd.vals ii v,[]⟩:=by
        refine NdV.own (vk:= .slice A7 (nd.keys.length+1) c7) (vv:= .slice A10 (nd.vals.length+1) c10) (vc:=vc) (nd:=⟨insI nd.keys ii k,insI nd.vals ii v,[]⟩) ?_;have hr:=HF.out.1
        exact(hr.chg hc12 (fun g hg e=>own_blk_ne hr.rk hbn10 (by decide) (by rw[hg,e])) (fun g hg e=>own_blk_ne hr.rv hbn10 (by decide) (by rw[hg,e])) (fun g hg e=>own_blk_ne hr.rc hbn10 (by decide) (by rw[hg,e]))).ndv hb12 (.inl (.inl HV.out.nb))
       have hcN:Chg N w4 W12:=Chg.trans HF.out.2.2 hc12 fun j _ e=>by subst e;exact HV.out.nb
       have hcW:Chg N wr W12:=Grew.then H4.out.2.1 hcN;have hJ:=HJ.out;have hwz:=hJ.rch.chg.size;have hpos:=tab_pos H.out.1.gp.tab;have hbt12:BT W12 t p root F' y:=hJ.bt.chg hcW (fun j hj e=>hJ.nF j e hj) (fun e=>by have:=hJ.nw _ e;omega) (fun e=>by have:=hJ.nw _ e;have:=hJ.tl;omega)
       have hfit:(⟨insI nd.keys ii k,insI nd.vals ii v,[]⟩:Nd).Fit y.sz:=nd_put_fit (hJ.bt.gp.fit hJ.way.nd).1 (by rw[←H4.out.2.2.2];exact atI_le _ _) (by have:=half_most hJ.bt.gp.szs.2.2.1;have:=hJ.room;omega) (yP4 H.out).1 (yP4 H.out).2.1;obtain⟨cq,q1,q2⟩:=hJ.ts.pgs q hJ.way.q_mem
       have hsv:=bsave_any t p root bn q F' _ y cq ⟨insI nd.keys ii k,insI nd.vals ii v,[]⟩ W12 hbt12 hn12.at hfit (by rw[hJ.like.was];exact H.out.2.1) q1 q2 (fun e=>hJ.nF _ HV.out.nb e);have HE:=yH (yA4 hsv hcW hfit hbt12);clear hsv hcW hfit hbt12 hn12 hcN hb12 hc12 hbn10 hJ hwz hpos q1 q2 hHeld hS;go_wp2_with fail
       refine HE.out.1.mono ?_;rintro e w' (⟨rfl,hto⟩ | ⟨hns, -,rfl,hg⟩)
       ·have hput:=HJ.out.put (v:=v) H1.out.2.2.2 HE.out.2.1 (fun j e=> .inr (HJ.out.nw j e)) HJ.out.bt.gp.szs.2.2.2.1 (by rw[H4.out.2.2.2];exact hto) (by rw[H4.out.2.2.2];exact HE.out.2.2.1)
        have HO:=yH hput;clear hput hto;go_wp2_with fail
        go_ret
        exact .inl ⟨rfl,HO.out⟩
       ·have hput:=HJ.out.fail (m:=0) (G:=F') HE.out.2.1 (fun j e=> .inr (HJ.out.nw j e)) ⟨y,F',HE.out.2.2.2.grew hg,hg.chg,fun _ e=> .inl e,Rp.like.refl y,by omega,fun e=>hns e.1⟩ (by omega) (fun j e=> .inl e)
        have HO:=yH hput;clear hput hg hns;go_wp2_with fail
        go_ret
        exact .inr ⟨rfl,HO.out⟩
     ·have t1:decide (nd.kids.length=0)=false:=decide_eq_false h0
      have t2:decide (nd.kids=[])=false:=decide_eq_false fun e=>h0 (by rw[e];rfl);have H0:=yH h0
      obtain⟨d',rfl⟩:∃d',d=d'+1:=⟨d - 1,by
       obtain⟨nd',g1, -, -,g2⟩:=HJ.out.way.tr.node;rw[HJ.out.way.nd] at g1
       cases g1
       have hd0:d≠0:=fun e=>h0 (g2.2 e);omega⟩
      obtain⟨c2,kd,A2,M2,B2,P3,PM2,P4,hc2,hw2⟩:=HJ.out.way.down HJ.out.ts.srt HL.out.2.2.1;rw[HL.out.2.2.2] at hc2;have hil:ii< nd.kids.length:=(List.getElem?_eq_some_iff.1 hc2).1;obtain⟨cp,cp1,cp2,cp3⟩:=Rp.nd_some hw2.nd;have hkl2:kd.keys.length≤300:=by have h1:=(HJ.out.bt.gp.fit hw2.nd).1.most;have h2:=HJ.out.bt.gp.szs;unfold mostN at h1;omega
      have hiN:(ii:Int)< (nd.kids.length:Int):=by omega
      have H2:=yH (yA5 hc2 hw2 cp1 cp2 cp3);clear hc2 hw2 cp1 cp2 cp3 h0;go_wp2_with (go_at_call 41;(refine HL.out.1.mono ?_);rintro e w5 ⟨rfl,rfl⟩)
      refine HL.out.2.1.mono ?_;rintro e w4 ⟨rfl,hg4⟩;have hbt4:=HJ.out.bt.grew hg4;have hld:=bload_any t p root c2 F' y cp kd w4 hbt4 H2.out.2.2.1 H2.out.2.2.2.1 (yP4 H2.out);have hn4:=HJ.out.own.grew hg4;obtain⟨Ak,ck,Av,cv,Ac,cc,b1, -, -,b4, -⟩:=hn4.at;obtain⟨c0,f0,s0⟩:=b1.facts;obtain⟨g,off,rfl,hgl,hx⟩:=b4.2 (by omega)
      have hce:w4.cell? ⟨g,off+ii,none⟩=some (.int .i64 c2):=hx ii _ (by simp[nv,H2.out.1]);have H4:=yH (yA4 hld hg4 hn4 hbt4);clear hld hg4 hn4 hbt4 b1 b4 hx hgl;go_wp2_with fail
      refine H4.out.1.mono ?_;rintro e w5 ⟨b3,N3,rfl,hn5,hN5,hbt5,hc5⟩;clear c0 f0 s0 hce;have hfu:=bfull_any t p root b3 c2 F' N3 y kd w5 hbt5 hn5.at hkl2;have H5:=yH (yA5 hfu hn5 hN5 hbt5 hc5);clear hfu hn5 hN5 hbt5 hc5;go_wp2_with fail
      by_cases hfull:2*halfN y.sz - 1≤kd.keys.length
      ·have t5:decide (2*halfN y.sz - 1≤kd.keys.length)=true:=decide_eq_true hfull
       have t6:decide (2*halfN y.sz≤kd.keys.length+1)=true:=decide_eq_true (by omega);refine H5.out.1.mono ?_;rintro e w6 ⟨rfl,hg6⟩;have hJ:=HJ.out;have hwz:=hJ.rch.chg.size;have hz4:=H4.out.2.1.size;have hz5:=(yP4 H5.out).size;have hz6:=hg6.size;have hpos:=tab_pos H.out.1.gp.tab;have hz:=hJ.bt.gp.szs;have h2h:=half_two hz.2.2.1;have hlt:=hJ.bt.gp.lt
       have hNlt:∀j,N j→j< wr.heap.size:=fun j hj=>hJ.own.at.lt j hj;have hcW:Chg F' wr w6:=(Grew.then H4.out.2.1 (yP4 H5.out)).grew hg6
       have hnode:kd.keys.length=2*halfN y.sz - 1:=by
        obtain⟨nd',g1, -,g2, -⟩:=H2.out.2.1.tr.node;rw[H2.out.2.1.nd] at g1
        cases g1
        omega
       have hf1:=hJ.bt.gp.fit hJ.way.nd;have hf2:=hJ.bt.gp.fit H2.out.2.1.nd
       have hSp:Sp w6 t p root F' y N N3 b3 c2 kd:=⟨H5.out.2.2.2.1.grew hg6,H5.out.2.1.grew hg6,fun j hj e=>by have:=hNlt j hj;have:=H5.out.2.2.1 j e;omega,fun j hj=>⟨hJ.nF j hj,by have:=hJ.nw j hj;have:=hJ.tl;omega,by have:=hJ.nw j hj;omega,by have:=hNlt j hj;omega⟩,fun j hj e=>by have:=H5.out.2.2.1 j hj;have:=hlt j e;omega⟩
       have hspl:=bsplit_any t p root bn q ii b3 c2 (halfN y.sz) F' N N3 y nd kd w6 hSp (hJ.own.chg hcW hJ.nF) rfl (half_two hz.2.2.1) (by rw[hJ.like.was];exact H.out.2.1) hnode (hf2.1.vals.trans hnode) (by rcases hf2.1.kids with e | e<;>omega) hJ.room hf1.1.vals (by rcases hf1.1.kids with e | e;exact absurd e H0.out;exact e) (by rw[←HL.out.2.2.2];exact atI_le _ _) hf1.1 hf2.1 (hJ.ts.pgs q hJ.way.q_mem) ⟨cp,H2.out.2.2.1,H2.out.2.2.2.1⟩ ⟨fun e=>by have:=H5.out.2.2.1 _ e;have:=hJ.tl;omega,fun e=>by have:=H5.out.2.2.1 _ e;omega⟩
       have H6:=yH (yA5 hspl hcW hnode hz4 (yA3 hz5 hz6 hwz));clear h2h hspl hSp hcW hnode hf1 hf2 hNlt hlt hz hpos hz4 hz5 hz6 hwz hJ hg6 hfull;go_wp2_with fail
       refine H6.out.1.mono ?_;rintro e w7 (⟨rfl,r,k0,v0,F2,N2,hr,hk0,hv0,hbt7,hcg,hFn,hno,hdis,hNn,ff1,ff2,ff3⟩ | ⟨rfl,hfu⟩)
       ·obtain⟨P',PM',e',ke,A',M',B',P1',PM3,P2',⟨j1,j2,j3,j4,j5⟩,d1,d2,hke,hus⟩:=HJ.out.split H1.out.2.2.2 (W1:=w6) (G:=fun j=>F' j∨N j∨N3 j) (N':=N2) (by rw[HL.out.2.2.2];exact H2.out.1) H2.out.2.1.nd H6.out.2.2.1 (half_two HJ.out.bt.gp.szs.2.2.1) HJ.out.bt.gp.szs.2.2.2.1 hr hk0 hv0 (by rw[HL.out.2.2.2];exact hbt7) H6.out.2.1 hcg (fun j e=>e.elim .inl fun e=>e.elim (fun e=> .inr (HJ.out.nw j e)) fun e=> .inr (by have:=H5.out.2.2.1 j e;have:=H6.out.2.2.2;omega)) hFn (by rw[HL.out.2.2.2];exact hno) hdis hNn ff1 ff2 (by rw[HL.out.2.2.2];exact ff3)
        rw[HL.out.2.2.2] at j1 j3 j4 j5 d1 d2 hus;obtain⟨y2,hy2⟩:∃y2,y.splitP r c2 q (kd.hi (halfN y.sz)) (kd.lo (halfN y.sz)) (nd.ins ii k0 v0 r)=y2:=⟨_,rfl⟩;have hsz2:y2.sz=y.sz:=by rw[←hy2];rfl
        rw[hy2] at j1 j3 j4 j5 d2 hus;rw[←hsz2] at j5 d2 hke;obtain⟨nd2,hnd2⟩:∃nd2,nd.ins ii k0 v0 r=nd2:=⟨_,rfl⟩;rw[hnd2] at j5 d1 hno;have hks2:=j5.tr.keys j5.nd (j5.srt j4.srt);have hkl3:nd2.keys.length≤300:=by have h1:=(j1.gp.fit j5.nd).1.most;have h2:=j1.gp.szs;unfold mostN at h1;omega
        have hpl2:=bplace_any bn q nd2 N2 k w7 hno.at hks2 (by omega);obtain⟨i2,hi2⟩:∃i,atI nd2.keys k=i:=⟨_,rfl⟩;obtain⟨f2,hf2⟩:∃f,nd2.keys.contains k=f:=⟨_,rfl⟩;rw[hi2] at d1;rw[hi2,hf2] at hpl2;have hil2:i2< nd2.kids.length:=(List.getElem?_eq_some_iff.1 d1).1;have hiN2:(i2:Int)< (nd2.kids.length:Int):=by omega
        obtain⟨cp',cq1,cq2,cq3⟩:=Rp.nd_some d2.nd;have H7:=yH (yA5 hpl2 (yA5 j1 j2 j3 j4 j5) d1 d2 (yA5 hke hus hno hdis (yA4 hNn cq1 cq2 cq3)));clear hpl2 j1 j2 j3 j4 j5 d1 d2 hke hus hno hdis hNn cq1 cq2 cq3 hr hk0 hv0 hbt7 hcg hFn ff1 ff2 ff3 hy2 hnd2 hsz2 hks2 hf2 hi2;go_wp2_with fail
        refine H7.out.1.mono ?_;rintro e w8 ⟨rfl,hg8⟩;have hn8:=(yP6 H7.out).1.grew hg8;have hbt8:=H7.out.2.1.1.grew hg8;have hld:=bload_any t p root e' F2 y2 cp' ke w8 hbt8 (yP8 H7.out).2.1 (yP10 H7.out).1 (yP10 H7.out).2;obtain⟨Ak2,ck2,Av2,cv2,Ac2,cc2,b1, -, -,b4, -⟩:=hn8.at;obtain⟨c0,f0,s0⟩:=b1.facts;obtain⟨g2,off2,rfl,hgl,hx⟩:=b4.2 (by omega)
        have hce:w8.cell? ⟨g2,off2+i2,none⟩=some (.int .i64 e'):=hx i2 _ (by simp[nv,H7.out.2.2.1]);have H8:=yH (yA3 hld hg8 hbt8);clear hld hg8 hn8 hbt8 b1 b4 hx hgl;go_wp2_with fail
        refine H8.out.1.mono ?_;rintro e w9 ⟨b5,N5,rfl,hn9,hN9,hbt9,hc9⟩;clear c0 f0 s0 hce;have H9:=yH (yA4 hn9 hN9 hbt9 hc9);clear hn9 hN9 hbt9 hc9;go_wp2_with fail
        go_roundg (d'+1)
        case measure=>omega
        case rel=>
         obtain⟨j1,j2,j3,j4,j5⟩:=H7.out.2.1;obtain⟨hn9,hN9,hbt9,hc9⟩:=H9.out;have hJ:=HJ.out;have hus:=(yP4 H7.out).2.1;have hu:=hJ.used;have hz8:=H8.out.2.1.size;have hz7:=j2.chg.size;have hlt:=H7.out.2.1.1.gp.lt
         exact⟨b5,d',e',ke,F2,y2,D,P',_,_,_,_,_,_,N5,rfl,rfl,rfl,hbt9,j2.trans ⟨Grew.then H8.out.2.1 hc9,fun j e=> .inl e⟩,j3,j4,H7.out.2.2.2.1,hn9,fun j hj e=>by have:=hN9 j hj;have:=hlt j e;omega,fun j hj=>by have:=hN9 j hj;omega,(yP4 H7.out).1,by omega,hJ.dep,hJ.tl⟩
       ·have hput:=HJ.out.fail H6.out.2.1 (fun j e=> .inl e) hfu (by omega) (fun j e=>e.elim .inl fun e=>e.elim (fun e=> .inr (HJ.out.nw j e)) fun e=> .inr (by have:=H5.out.2.2.1 j e;have:=H6.out.2.2.2;omega))
        have HO:=yH hput;clear hput hfu;go_wp2_with fail
        go_ret
        exact .inr ⟨rfl,HO.out⟩
      ·have t5:decide (2*halfN y.sz - 1≤kd.keys.length)=false:=decide_eq_false hfull
       have t6:decide (2*halfN y.sz≤kd.keys.length+1)=false:=decide_eq_false (by omega);refine H5.out.1.mono ?_;rintro e w6 ⟨rfl,hg6⟩;have hbt6:=H5.out.2.2.2.1.grew hg6;have hld:=bload_any t p root c2 F' y cp kd w6 hbt6 H2.out.2.2.1 H2.out.2.2.2.1 (yP4 H2.out);have hcW:Chg F' wr w6:=(Grew.then H4.out.2.1 (yP4 H5.out)).grew hg6;have hn6:=HJ.out.own.chg hcW HJ.out.nF
       obtain⟨Ak2,ck2,Av2,cv2,Ac2,cc2,b1, -, -,b4, -⟩:=hn6.at;obtain⟨c0,f0,s0⟩:=b1.facts;obtain⟨g2,off2,rfl,hgl,hx⟩:=b4.2 (by omega);have hce:w6.cell? ⟨g2,off2+ii,none⟩=some (.int .i64 c2):=hx ii _ (by simp[nv,H2.out.1]);have hroom:kd.keys.length+1≤2*halfN y.sz - 1:=by omega
       have H6:=yH (yA4 hld hcW hbt6 hroom);clear hld hg6 hn6 hbt6 b1 b4 hx hgl hcW hroom hfull;go_wp2_with fail
       refine H6.out.1.mono ?_;rintro e w9 ⟨b5,N5,rfl,hn9,hN9,hbt9,hc9⟩;clear c0 f0 s0 hce;have H9:=yH (yA4 hn9 hN9 hbt9 hc9);clear hn9 hN9 hbt9 hc9;go_wp2_with fail
       go_roundg (d'+1)
       case measure=>omega
       case rel=>
        obtain⟨hn9,hN9,hbt9,hc9⟩:=H9.out;have hz6:=H6.out.2.1.size;exact⟨b5,d',c2,kd,F',y,D,P,_,_,_,_,_,_,N5,rfl,rfl,rfl,HJ.out.down H2.out.2.1 (Chg.trans H6.out.2.1 hc9 fun _ _ e=>e) hbt9 hn9 (fun j hj=>by have:=hN9 j hj;omega) H6.out.2.2.2⟩
   ·have hout:PuOut w w4 t p root F x D0 k v L (.returned (.int .i64 21)):= .inr ⟨rfl,(hfu.more (G':=F) (m':=L.length+3 - x.now.countP Pk.used) (Rp.like.refl x) (by have h1:=H.out.2.2.1.used;have h2:=H.out.2.2.1.tr.pages (yP6 H.out).2.1;omega) H3.out.2 (fun j e=> .inl e) fun j hj e=>e.resolve_right fun e=>by have:=HF2.out.2.2.1 j e;omega).full (Nat.le_refl _)⟩
    have HO:=yH hout;clear hout hfu hz1 hz2 hz3 hpos htl;go_wp2_with fail
    go_loopg [11,12] 1 (fun m n e wr=>e= .int .i64 21∧wr=w4)
    case atStart=>exact⟨rfl,rfl⟩
    case round=>
     obtain⟨rfl,rfl⟩:=hrel;go_wp2_with fail
     go_ret
     exact HO.out
  ·have t5:decide (2*halfN x.sz - 1≤ndR.keys.length)=false:=decide_eq_false hfull
   have t6:decide (2*halfN x.sz≤ndR.keys.length+1)=false:=decide_eq_false (by omega);refine HF2.out.1.mono ?_;rintro e w3 ⟨rfl,hg3⟩;have hz1:=H1.out.2.1.size;have hz2:=(yP4 HF2.out).size;have htl:=H.out.1.blk.lt
   have hJ0:PuJ w w3 t p root F x k L b2 D0 root ndR F x D0 P [] L [] [] P [] N2 D0:=⟨HF2.out.2.2.2.1.grew hg3,⟨(Chg.trans H1.out.2.1 (yP4 HF2.out) fun _ _ e=>e).grew hg3,fun j e=> .inl e⟩,Rp.like.refl x,H.out.2.2.1,H1.out.1,HF2.out.2.1.grew hg3,fun j hj e=>by have:=HF2.out.2.2.1 j hj;have:=H.out.1.gp.lt j e;omega,fun j hj=>by have:=HF2.out.2.2.1 j hj;omega,by omega,by omega,by have:=(yP8 H.out).1;omega,htl⟩
   have HJ0:=yH hJ0;clear hJ0 hg3 hz1 hz2 htl hfull;go_wp2_with fail
   go_loopg [11,12] (D0+1) (fun m n e wr=>∃ (bn d q:Nat) (nd:Nd) (F':Nat→Prop) (y:Rp) (D:Nat) (P:List Nat) (A M B:List KV) (P1 PM P2:List Nat) (N:Nat→Prop),m=d+1∧n= .pointer (some ⟨bn,0,none⟩)∧e= .int .i64 0∧PuJ w wr t p root F x k L bn d q nd F' y D P A M B P1 PM P2 N D0)
   case atStart=>exact⟨_,D0,_,_,_,_,_,_,_,_,_,_,_,_,_,rfl,rfl,rfl,HJ0.out⟩
   case round=>
    obtain⟨bn,d,q,nd,F',y,D,P,A,M,B,P1,PM,P2,N,rfl,rfl,rfl,hJ⟩:=hrel;have HJ:=yH hJ;have hkl:nd.keys.length≤300:=by have h1:=(hJ.bt.gp.fit hJ.way.nd).1.most;have h2:=hJ.bt.gp.szs;unfold mostN at h1;omega
    have hlf:=leaf_any bn q nd N wr hJ.own.at;have hks:=hJ.way.tr.keys hJ.way.nd (hJ.way.srt hJ.ts.srt);have hpl:=bplace_any bn q nd N k wr hJ.own.at hks (by omega);have hmiss:=hJ.way.miss H1.out.2.2.2;obtain⟨ii,hii⟩:∃i,atI nd.keys k=i:=⟨_,rfl⟩;rw[hmiss,hii] at hpl;have HL:=yH (yA4 hlf hpl hmiss hii);clear hlf hpl hks hmiss hii hJ;by_cases h0:nd.kids.length=0
    ·have t1:decide (nd.kids.length=0)=true:=decide_eq_true h0
     obtain rfl:d=0:=by
      obtain⟨nd',g1, -, -,g2⟩:=HJ.out.way.tr.node;rw[HJ.out.way.nd] at g1
      cases g1
      exact g2.1 h0
     go_wp2_with (go_at_call 41;(refine HL.out.1.mono ?_);rintro e w5 ⟨rfl,rfl⟩)
     refine HL.out.2.1.mono ?_;rintro e w4 ⟨rfl,hg4⟩;have H4:=yH (yA4 trivial hg4 HL.out.2.2.1 HL.out.2.2.2);clear hg4;obtain⟨vk,vv,vc,hV⟩:=(HJ.out.own.grew H4.out.2.1).v;have hne:=hV.ne;have HV:=yH hV;have hS:w4.drew.cell? ⟨bn,1,none⟩=some vk∧w4.drew.cell? ⟨bn,2,none⟩=some vv:=⟨hV.blk.drew.cell 1,hV.blk.drew.cell 2⟩
     have hiil:ii≤nd.keys.length:=by rw[←H4.out.2.2.2];exact atI_le _ _
     have hvl:nd.vals.length=nd.keys.length:=(HJ.out.bt.gp.fit HJ.out.way.nd).1.vals;have hp4:1≤w4.heap.size:=by have:=tab_pos H.out.1.gp.tab;have:=HJ.out.rch.chg.size;have:=H4.out.2.1.size;omega
     have hkc:nd.kids=[]:=List.eq_nil_of_length_eq_zero h0;have HP:=yH (yA5 hne hiil hvl hp4 (yA hkl hkc));clear hV hne hiil hvl hp4 hkc;go_wp2_with fail
     refine wp_region_x [1,10,11,12,14,15,20,21,22,23] (S:=fun w'=>w'.cell? ⟨bn,1,none⟩=some vk∧w'.cell? ⟨bn,2,none⟩=some vv) (by kernel_rfl) hS (fun hHeld=>?_);refine Todo.out (is:=[1,10,11,12,14,15]) ?_
     repeat
      refine tkP (v:=?_) rfl (Or.inl ⟨by rfl,?_⟩) ?_;rotate_left
      ·(intro w hSw;go_simp)<;>with_reducible rfl
      (try simp only[Act.put,lZ])
     refine Todo.fin ?_;refine wpAnyX_mono (X':=[20,21,22,23]) (fun i hi=>by simp at hi ⊢;omega) _ _ _ _ ?_;refine Todo.out (is:=[0,2,3,4,5,6,7,13]) ?_
     repeat
      refine tkX (v:=?_) rfl (Or.inl ⟨by rfl,?_⟩) hHeld ?_;rotate_left
      ·(intro w hSw;(try dsimp only at hSw);go_simp)<;>with_reducible rfl
      (try simp only[Act.put,lZ])
     refine Todo.fin ?_;refine wpAnyX_ready (rs:=[8,16]) (by kernel_rfl) (by simp) ?_;refine AllReadyX.cons rfl (fun K hK=>?_) (AllReadyX.cons rfl (fun K hK=>?_) AllReadyX.nil)
     focus
      go_simp;obtain⟨W6,hW6⟩:∃W,(w4.alloc (.cells #[.int .i64 k] 3)).drew=W:=⟨_,rfl⟩;rw[hW6];have gW6:Grew w4 W6:=hW6▸((Chg.refl NoF w4).alloc _).drew;have lW6:Blk W6 w4.heap.size 3 #[.int .i64 k]:=hW6▸(Blk.new w4 _ _).drew;have hR6:=HV.out.rws.grew gW6;have hB6:=HV.out.blk.grew gW6
      refine hK.out _ _ (fun _=>(⟨(hB6).cell 1,(hB6).cell 2⟩:W6.cell? ⟨bn,1,none⟩=some vk∧W6.cell? ⟨bn,2,none⟩=some vv)) ?_;clear hK K;(try simp only[Act.put,lZ])
      refine wpAnyX_ready (rs:=[9,16]) (by kernel_rfl) (by simp) ?_;refine AllReadyX.cons rfl (fun K hK=>?_) (AllReadyX.cons rfl (fun K hK=>?_) AllReadyX.nil)
      focus
       go_simp;refine(insK hR6 (by omega) HP.out.2.1 lW6 (fun e=>by have:=HV.out.lt _ (HV.out.nk _ e);have:=gW6.size;omega) (by have:=HP.out.2.2.2.1;have:=gW6.size;(try have:=gW8.size);omega)).mono ?_;rintro e w7 ⟨A7,c7,rfl,hR7,ha7⟩;have hB7:=hB6.chg ha7.chg HP.out.1.1
       refine hK.out _ _ (fun _=>(⟨(hB7).cell 1,(hB7).cell 2⟩:w7.cell? ⟨bn,1,none⟩=some vk∧w7.cell? ⟨bn,2,none⟩=some vv)) ?_;clear hK K;(try simp only[Act.put,lZ])
       refine rdX (i:=16) (by kernel_rfl) rfl fun K hK=>?_;go_simp;obtain⟨W8,hW8⟩:∃W,w7.alloc (.cells #[.int .i64 v] 3)=W:=⟨_,rfl⟩;rw[hW8];have gW8:Grew w7 W8:=hW8▸(Chg.refl NoF w7).alloc _;have lW8:Blk W8 w7.heap.size 3 #[.int .i64 v]:=hW8▸Blk.new w7 _ _;have hR8:=hR7.grew gW8;have hB8:=hB7.grew gW8
       refine hK.out _ _ (fun _=>(⟨(hB8).cell 1,(hB8).cell 2⟩:W8.cell? ⟨bn,1,none⟩=some vk∧W8.cell? ⟨bn,2,none⟩=some vv)) ?_;clear hK K;(try simp only[Act.put,lZ])
       refine rdX (i:=17) (by kernel_rfl) rfl fun K hK=>?_;go_simp;refine(insV hR8 (by have:=HP.out.2.2.1;omega) (by have:=HP.out.2.2.1;have:=HP.out.2.1;omega) lW8 (fun e=>by have:=hR7.lt _ (hR7.nv _ e);omega) (by have:=HP.out.2.2.2.1;have:=ha7.chg.size;have:=gW6.size;have:=gW8.size;omega)).mono ?_;rintro e w10 ⟨A10,c10,rfl,hR10,ha10⟩
       have hB10:=hB8.chg ha10.chg HP.out.1.2.1;have hC10:Chg N w4 w10:=Chg.trans (Grew.then gW6 (ha7.chg.mono fun j _ e=>HV.out.nk j e)) (Grew.then gW8 (ha10.chg.mono fun j _ e=>HV.out.nv j e)) fun _ _ e=>e
       have HF:=yH (show Rws w10 (fun j=>(N j∨(Value.slice A7 (nd.keys.length+1) c7).ownBlock=some j)∨(Value.slice A10 (nd.vals.length+1) c10).ownBlock=some j) (.slice A7 (nd.keys.length+1) c7) (.slice A10 (nd.vals.length+1) c10) vc (iv (insI nd.keys ii k)) (iv (insI nd.vals ii v)) (nv [])∧Blk w10 bn 73 #[.int .i64 q,vk,vv,vc]∧Chg N w4 w10 from⟨(yP4 HP.out).2▸hR10,hB10,hC10⟩)
       clear hR10 hB10 hC10;clear hR6 hB6 hR7 ha7 hB7 hR8 hB8 ha10 lW6 lW8 gW6 gW8 hW6 hW8
      rotate_left
      focus
       go_simp;obtain⟨W8,hW8⟩:∃W,W6.alloc (.cells #[.int .i64 v] 3)=W:=⟨_,rfl⟩;rw[hW8];have gW8:Grew W6 W8:=hW8▸(Chg.refl NoF W6).alloc _;have lW8:Blk W8 W6.heap.size 3 #[.int .i64 v]:=hW8▸Blk.new W6 _ _;have hR8:=hR6.grew gW8;have hB8:=hB6.grew gW8
       refine hK.out _ _ (fun _=>(⟨(hB8).cell 1,(hB8).cell 2⟩:W8.cell? ⟨bn,1,none⟩=some vk∧W8.cell? ⟨bn,2,none⟩=some vv)) ?_;clear hK K;(try simp only[Act.put,lZ])
       refine rdX (i:=9) (by kernel_rfl) rfl fun K hK=>?_;go_simp;refine(insK hR8 (by omega) HP.out.2.1 (lW6.grew gW8) (fun e=>by have:=HV.out.lt _ (HV.out.nk _ e);have:=gW6.size;omega) (by have:=HP.out.2.2.2.1;have:=gW6.size;(try have:=gW8.size);omega)).mono ?_;rintro e w9 ⟨A7,c7,rfl,hR9,ha9⟩;have hB9:=hB8.chg ha9.chg HP.out.1.1
       have hl9:=lW8.chg ha9.chg fun e=>by have:=HV.out.lt _ (HV.out.nk _ e);have:=gW6.size;omega
       refine hK.out _ _ (fun _=>(⟨(hB9).cell 1,(hB9).cell 2⟩:w9.cell? ⟨bn,1,none⟩=some vk∧w9.cell? ⟨bn,2,none⟩=some vv)) ?_;clear hK K;(try simp only[Act.put,lZ])
       refine rdX (i:=17) (by kernel_rfl) rfl fun K hK=>?_;go_simp;refine(insV hR9 (by have:=HP.out.2.2.1;omega) (by have:=HP.out.2.2.1;have:=HP.out.2.1;omega) hl9 (fun e=>by have:=HV.out.lt _ (HV.out.nv _ e);have:=gW6.size;omega) (by have:=HP.out.2.2.2.1;have:=ha9.chg.size;have:=gW6.size;have:=gW8.size;omega)).mono ?_
       rintro e w10 ⟨A10,c10,rfl,hR10,ha10⟩;have hB10:=hB9.chg ha10.chg HP.out.1.2.1;have hC10:Chg N w4 w10:=Chg.trans (Grew.then (Grew.trans gW6 gW8) (ha9.chg.mono fun j _ e=>HV.out.nk j e)) (ha10.chg.mono fun j _ e=>HV.out.nv j e) fun _ _ e=>e
       have HF:=yH (show Rws w10 (fun j=>(N j∨(Value.slice A7 (nd.keys.length+1) c7).ownBlock=some j)∨(Value.slice A10 (nd.vals.length+1) c10).ownBlock=some j) (.slice A7 (nd.keys.length+1) c7) (.slice A10 (nd.vals.length+1) c10) vc (iv (insI nd.keys ii k)) (iv (insI nd.vals ii v)) (nv [])∧Blk w10 bn 73 #[.int .i64 q,vk,vv,vc]∧Chg N w4 w10 from⟨(yP4 HP.out).2▸hR10,hB10,hC10⟩)
       clear hR10 hB10 hC10;clear hR6 hB6 hR8 hB8 hR9 ha9 hB9 hl9 ha10 lW6 lW8 gW6 gW8 hW6 hW8
     rotate_left 2
     focus
      go_simp;obtain⟨W6,hW6⟩:∃W,(w4.alloc (.cells #[.int .i64 v] 3)).drew=W:=⟨_,rfl⟩;rw[hW6];have gW6:Grew w4 W6:=hW6▸((Chg.refl NoF w4).alloc _).drew;have lW6:Blk W6 w4.heap.size 3 #[.int .i64 v]:=hW6▸(Blk.new w4 _ _).drew;have hR6:=HV.out.rws.grew gW6;have hB6:=HV.out.blk.grew gW6
      refine hK.out _ _ (fun _=>(⟨(hB6).cell 1,(hB6).cell 2⟩:W6.cell? ⟨bn,1,none⟩=some vk∧W6.cell? ⟨bn,2,none⟩=some vv)) ?_;clear hK K;(try simp only[Act.put,lZ])
      refine rdX (i:=8) (by kernel_rfl) rfl fun K hK=>?_;go_simp;obtain⟨W8,hW8⟩:∃W,W6.alloc (.cells #[.int .i64 k] 3)=W:=⟨_,rfl⟩;rw[hW8];have gW8:Grew W6 W8:=hW8▸(Chg.refl NoF W6).alloc _;have lW8:Blk W8 W6.heap.size 3 #[.int .i64 k]:=hW8▸Blk.new W6 _ _;have hR8:=hR6.grew gW8;have hB8:=hB6.grew gW8
      refine hK.out _ _ (fun _=>(⟨(hB8).cell 1,(hB8).cell 2⟩:W8.cell? ⟨bn,1,none⟩=some vk∧W8.cell? ⟨bn,2,none⟩=some vv)) ?_;clear hK K;(try simp only[Act.put,lZ])
      refine rdX (i:=9) (by kernel_rfl) rfl fun K hK=>?_;go_simp;refine(insK hR8 (by omega) HP.out.2.1 lW8 (fun e=>by have:=HV.out.lt _ (HV.out.nk _ e);have:=gW6.size;omega) (by have:=HP.out.2.2.2.1;have:=gW6.size;(try have:=gW8.size);omega)).mono ?_;rintro e w9 ⟨A7,c7,rfl,hR9,ha9⟩;have hB9:=hB8.chg ha9.chg HP.out.1.1
      have hl9:=(lW6.grew gW8).chg ha9.chg fun e=>by have:=HV.out.lt _ (HV.out.nk _ e);have:=gW6.size;omega
      refine hK.out _ _ (fun _=>(⟨(hB9).cell 1,(hB9).cell 2⟩:w9.cell? ⟨bn,1,none⟩=some vk∧w9.cell? ⟨bn,2,none⟩=some vv)) ?_;clear hK K;(try simp only[Act.put,lZ])
      refine rdX (i:=17) (by kernel_rfl) rfl fun K hK=>?_;go_simp;refine(insV hR9 (by have:=HP.out.2.2.1;omega) (by have:=HP.out.2.2.1;have:=HP.out.2.1;omega) hl9 (fun e=>by have:=HV.out.lt _ (HV.out.nv _ e);have:=gW6.size;omega) (by have:=HP.out.2.2.2.1;have:=ha9.chg.size;have:=gW6.size;have:=gW8.size;omega)).mono ?_;rintro e w10 ⟨A10,c10,rfl,hR10,ha10⟩
      have hB10:=hB9.chg ha10.chg HP.out.1.2.1;have hC10:Chg N w4 w10:=Chg.trans (Grew.then (Grew.trans gW6 gW8) (ha9.chg.mono fun j _ e=>HV.out.nk j e)) (ha10.chg.mono fun j _ e=>HV.out.nv j e) fun _ _ e=>e
      have HF:=yH (show Rws w10 (fun j=>(N j∨(Value.slice A7 (nd.keys.length+1) c7).ownBlock=some j)∨(Value.slice A10 (nd.vals.length+1) c10).ownBlock=some j) (.slice A7 (nd.keys.length+1) c7) (.slice A10 (nd.vals.length+1) c10) vc (iv (insI nd.keys ii k)) (iv (insI nd.vals ii v)) (nv [])∧Blk w10 bn 73 #[.int .i64 q,vk,vv,vc]∧Chg N w4 w10 from⟨(yP4 HP.out).2▸hR10,hB10,hC10⟩)
      clear hR10 hB10 hC10;clear hR6 hB6 hR8 hB8 hR9 ha9 hB9 hl9 ha10 lW6 lW8 gW6 gW8 hW6 hW8
     all_goals
      have hb10:=HF.out.2.1;obtain⟨d9,f9,s9⟩:=hb10.facts;have hS10:w10.cell? ⟨bn,1,none⟩=some vk∧w10.cell? ⟨bn,2,none⟩=some vv:=⟨hb10.cell 1,hb10.cell 2⟩;refine hK.out _ _ (fun _=>hS10) ?_;clear hK K;(try simp only[Act.put,lZ])
      refine rdX (i:=18) (by kernel_rfl) rfl fun K hK=>?_;go_simp;refine hK.out _ _ (fun _=>hS10) ?_;clear hK K;(try simp only[Act.put,lZ])
      refine rdX (i:=19) (by kernel_rfl) rfl fun K hK=>?_;go_simp;refine hK.out _ _ (fun _=>hS10) ?_;clear hK K;(try simp only[Act.put,lZ])
      refine rdX (i:=20) (by kernel_rfl) rfl fun K hK=>?_;go_simp;obtain⟨W11,hW11⟩:∃W,w10.setCell ⟨bn,1,none⟩ (.slice A7 (nd.keys.length+1) c7)=W:=⟨_,rfl⟩;rw[hW11]
      have hb11:Blk W11 bn 73 #[.int .i64 q,.slice A7 (nd.keys.length+1) c7,vv,vc]:=by
       have h9:=hb10.put 1 (.slice A7 (nd.keys.length+1) c7);rw[hW11] at h9;simpa using h9
      have hc11:Chg (fun j=>j=bn) w10 W11:=hW11▸(Chg.refl (fun j=>j=bn) w10).setCell (p:=⟨bn,1,none⟩) (fun _=>rfl) _;clear d9 f9 s9 hS10 hb10 hW11;obtain⟨d9,f9,s9⟩:=hb11.facts;refine hK.out _ _ (fun h=>by cases h) ?_;clear hK K;(try simp only[Act.put,lZ])
      refine rdX (i:=21) (by kernel_rfl) rfl fun K hK=>?_;go_simp;refine hK.out _ _ (fun h=>by cases h) ?_;clear hK K;(try simp only[Act.put,lZ])
      refine rdX (i:=22) (by kernel_rfl) rfl fun K hK=>?_;go_simp;refine hK.out _ _ (fun h=>by cases h) ?_;clear hK K;(try simp only[Act.put,lZ])
      refine rdX (i:=23) (by kernel_rfl) rfl fun K hK=>?_;go_simp;obtain⟨W12,hW12⟩:∃W,W11.setCell ⟨bn,2,none⟩ (.slice A10 (nd.vals.length+1) c10)=W:=⟨_,rfl⟩;rw[hW12]
      have hb12:Blk W12 bn 73 #[.int .i64 q,.slice A7 (nd.keys.length+1) c7,.slice A10 (nd.vals.length+1) c10,vc]:=by
       have h9:=hb11.put 2 (.slice A10 (nd.vals.length+1) c10);rw[hW12] at h9;simpa using h9
      have hc12:Chg (fun j=>j=bn) w10 W12:=Chg.trans hc11 (hW12▸(Chg.refl (fun j=>j=bn) W11).setCell (p:=⟨bn,2,none⟩) (fun _=>rfl) _) fun _ _ e=>e;clear d9 f9 s9 hW12 hb11 hc11;refine hK.out _ _ (fun h=>by cases h) ?_;clear hK K;(try simp only[Act.put,lZ])
      refine wpAnyX_done (by kernel_rfl) ?_ _;have hbn10:=HF.out.2.1
      have hn12:NdOwn W12 (fun j=>(N j∨(Value.slice A7 (nd.keys.length+1) c7).ownBlock=some j)∨(Value.slice A10 (nd.vals.length+1) c10).ownBlock=some j) bn q ⟨insI nd.keys ii k,insI nd.vals ii v,[]⟩:=by
       refine NdV.own (vk:= .slice A7 (nd.keys.length+1) c7) (vv:= .slice A10 (nd.vals.length+1) c10) (vc:=vc) (nd:=⟨insI nd.keys ii k,insI nd.vals ii v,[]⟩) ?_;have hr:=HF.out.1
       exact(hr.chg hc12 (fun g hg e=>own_blk_ne hr.rk hbn10 (by decide) (by rw[hg,e])) (fun g hg e=>own_blk_ne hr.rv hbn10 (by decide) (by rw[hg,e])) (fun g hg e=>own_blk_ne hr.rc hbn10 (by decide) (by rw[hg,e]))).ndv hb12 (.inl (.inl HV.out.nb))
      have hcN:Chg N w4 W12:=Chg.trans HF.out.2.2 hc12 fun j _ e=>by subst e;exact HV.out.nb
      have hcW:Chg N wr W12:=Grew.then H4.out.2.1 hcN;have hJ:=HJ.out;have hwz:=hJ.rch.chg.size;have hpos:=tab_pos H.out.1.gp.tab;have hbt12:BT W12 t p root F' y:=hJ.bt.chg hcW (fun j hj e=>hJ.nF j e hj) (fun e=>by have:=hJ.nw _ e;omega) (fun e=>by have:=hJ.nw _ e;have:=hJ.tl;omega)
      have hfit:(⟨insI nd.keys ii k,insI nd.vals ii v,[]⟩:Nd).Fit y.sz:=nd_put_fit (hJ.bt.gp.fit hJ.way.nd).1 (by rw[←H4.out.2.2.2];exact atI_le _ _) (by have:=half_most hJ.bt.gp.szs.2.2.1;have:=hJ.room;omega) (yP4 H.out).1 (yP4 H.out).2.1;obtain⟨cq,q1,q2⟩:=hJ.ts.pgs q hJ.way.q_mem
      have hsv:=bsave_any t p root bn q F' _ y cq ⟨insI nd.keys ii k,insI nd.vals ii v,[]⟩ W12 hbt12 hn12.at hfit (by rw[hJ.like.was];exact H.out.2.1) q1 q2 (fun e=>hJ.nF _ HV.out.nb e);have HE:=yH (yA4 hsv hcW hfit hbt12);clear hsv hcW hfit hbt12 hn12 hcN hb12 hc12 hbn10 hJ hwz hpos q1 q2 hHeld hS;go_wp2_with fail
      refine HE.out.1.mono ?_;rintro e w' (⟨rfl,hto⟩ | ⟨hns, -,rfl,hg⟩)
      ·have hput:=HJ.out.put (v:=v) H1.out.2.2.2 HE.out.2.1 (fun j e=> .inr (HJ.out.nw j e)) HJ.out.bt.gp.szs.2.2.2.1 (by rw[H4.out.2.2.2];exact hto) (by rw[H4.out.2.2.2];exact HE.out.2.2.1)
       have HO:=yH hput;clear hput hto;go_wp2_with fail
       go_ret
       exact .inl ⟨rfl,HO.out⟩
      ·have hput:=HJ.out.fail (m:=0) (G:=F') HE.out.2.1 (fun j e=> .inr (HJ.out.nw j e)) ⟨y,F',HE.out.2.2.2.grew hg,hg.chg,fun _ e=> .inl e,Rp.like.refl y,by omega,fun e=>hns e.1⟩ (by omega) (fun j e=> .inl e)
       have HO:=yH hput;clear hput hg hns;go_wp2_with fail
       go_ret
       exact .inr ⟨rfl,HO.out⟩
    ·have t1:decide (nd.kids.length=0)=false:=decide_eq_false h0
     have t2:decide (nd.kids=[])=false:=decide_eq_false fun e=>h0 (by rw[e];rfl);have H0:=yH h0
     obtain⟨d',rfl⟩:∃d',d=d'+1:=⟨d - 1,by
      obtain⟨nd',g1, -, -,g2⟩:=HJ.out.way.tr.node;rw[HJ.out.way.nd] at g1
      cases g1
      have hd0:d≠0:=fun e=>h0 (g2.2 e);omega⟩
     obtain⟨c2,kd,A2,M2,B2,P3,PM2,P4,hc2,hw2⟩:=HJ.out.way.down HJ.out.ts.srt HL.out.2.2.1;rw[HL.out.2.2.2] at hc2;have hil:ii< nd.kids.length:=(List.getElem?_eq_some_iff.1 hc2).1;obtain⟨cp,cp1,cp2,cp3⟩:=Rp.nd_some hw2.nd;have hkl2:kd.keys.length≤300:=by have h1:=(HJ.out.bt.gp.fit hw2.nd).1.most;have h2:=HJ.out.bt.gp.szs;unfold mostN at h1;omega
     have hiN:(ii:Int)< (nd.kids.length:Int):=by omega
     have H2:=yH (yA5 hc2 hw2 cp1 cp2 cp3);clear hc2 hw2 cp1 cp2 cp3 h0;go_wp2_with (go_at_call 41;(refine HL.out.1.mono ?_);rintro e w5 ⟨rfl,rfl⟩)
     refine HL.out.2.1.mono ?_;rintro e w4 ⟨rfl,hg4⟩;have hbt4:=HJ.out.bt.grew hg4;have hld:=bload_any t p root c2 F' y cp kd w4 hbt4 H2.out.2.2.1 H2.out.2.2.2.1 (yP4 H2.out);have hn4:=HJ.out.own.grew hg4;obtain⟨Ak,ck,Av,cv,Ac,cc,b1, -, -,b4, -⟩:=hn4.at;obtain⟨c0,f0,s0⟩:=b1.facts;obtain⟨g,off,rfl,hgl,hx⟩:=b4.2 (by omega)
     have hce:w4.cell? ⟨g,off+ii,none⟩=some (.int .i64 c2):=hx ii _ (by simp[nv,H2.out.1]);have H4:=yH (yA4 hld hg4 hn4 hbt4);clear hld hg4 hn4 hbt4 b1 b4 hx hgl;go_wp2_with fail
     refine H4.out.1.mono ?_;rintro e w5 ⟨b3,N3,rfl,hn5,hN5,hbt5,hc5⟩;clear c0 f0 s0 hce;have hfu:=bfull_any t p root b3 c2 F' N3 y kd w5 hbt5 hn5.at hkl2;have H5:=yH (yA5 hfu hn5 hN5 hbt5 hc5);clear hfu hn5 hN5 hbt5 hc5;go_wp2_with fail
     by_cases hfull:2*halfN y.sz - 1≤kd.keys.length
     ·have t5:decide (2*halfN y.sz - 1≤kd.keys.length)=true:=decide_eq_true hfull
      have t6:decide (2*halfN y.sz≤kd.keys.length+1)=true:=decide_eq_true (by omega);refine H5.out.1.mono ?_;rintro e w6 ⟨rfl,hg6⟩;have hJ:=HJ.out;have hwz:=hJ.rch.chg.size;have hz4:=H4.out.2.1.size;have hz5:=(yP4 H5.out).size;have hz6:=hg6.size;have hpos:=tab_pos H.out.1.gp.tab;have hz:=hJ.bt.gp.szs;have h2h:=half_two hz.2.2.1;have hlt:=hJ.bt.gp.lt
      have hNlt:∀j,N j→j< wr.heap.size:=fun j hj=>hJ.own.at.lt j hj;have hcW:Chg F' wr w6:=(Grew.then H4.out.2.1 (yP4 H5.out)).grew hg6
      have hnode:kd.keys.length=2*halfN y.sz - 1:=by
       obtain⟨nd',g1, -,g2, -⟩:=H2.out.2.1.tr.node;rw[H2.out.2.1.nd] at g1
       cases g1
       omega
      have hf1:=hJ.bt.gp.fit hJ.way.nd;have hf2:=hJ.bt.gp.fit H2.out.2.1.nd
      have hSp:Sp w6 t p root F' y N N3 b3 c2 kd:=⟨H5.out.2.2.2.1.grew hg6,H5.out.2.1.grew hg6,fun j hj e=>by have:=hNlt j hj;have:=H5.out.2.2.1 j e;omega,fun j hj=>⟨hJ.nF j hj,by have:=hJ.nw j hj;have:=hJ.tl;omega,by have:=hJ.nw j hj;omega,by have:=hNlt j hj;omega⟩,fun j hj e=>by have:=H5.out.2.2.1 j hj;have:=hlt j e;omega⟩
      have hspl:=bsplit_any t p root bn q ii b3 c2 (halfN y.sz) F' N N3 y nd kd w6 hSp (hJ.own.chg hcW hJ.nF) rfl (half_two hz.2.2.1) (by rw[hJ.like.was];exact H.out.2.1) hnode (hf2.1.vals.trans hnode) (by rcases hf2.1.kids with e | e<;>omega) hJ.room hf1.1.vals (by rcases hf1.1.kids with e | e;exact absurd e H0.out;exact e) (by rw[←HL.out.2.2.2];exact atI_le _ _) hf1.1 hf2.1 (hJ.ts.pgs q hJ.way.q_mem) ⟨cp,H2.out.2.2.1,H2.out.2.2.2.1⟩ ⟨fun e=>by have:=H5.out.2.2.1 _ e;have:=hJ.tl;omega,fun e=>by have:=H5.out.2.2.1 _ e;omega⟩
      have H6:=yH (yA5 hspl hcW hnode hz4 (yA3 hz5 hz6 hwz));clear h2h hspl hSp hcW hnode hf1 hf2 hNlt hlt hz hpos hz4 hz5 hz6 hwz hJ hg6 hfull;go_wp2_with fail
      refine H6.out.1.mono ?_;rintro e w7 (⟨rfl,r,k0,v0,F2,N2,hr,hk0,hv0,hbt7,hcg,hFn,hno,hdis,hNn,ff1,ff2,ff3⟩ | ⟨rfl,hfu⟩)
      ·obtain⟨P',PM',e',ke,A',M',B',P1',PM3,P2',⟨j1,j2,j3,j4,j5⟩,d1,d2,hke,hus⟩:=HJ.out.split H1.out.2.2.2 (W1:=w6) (G:=fun j=>F' j∨N j∨N3 j) (N':=N2) (by rw[HL.out.2.2.2];exact H2.out.1) H2.out.2.1.nd H6.out.2.2.1 (half_two HJ.out.bt.gp.szs.2.2.1) HJ.out.bt.gp.szs.2.2.2.1 hr hk0 hv0 (by rw[HL.out.2.2.2];exact hbt7) H6.out.2.1 hcg (fun j e=>e.elim .inl fun e=>e.elim (fun e=> .inr (HJ.out.nw j e)) fun e=> .inr (by have:=H5.out.2.2.1 j e;have:=H6.out.2.2.2;omega)) hFn (by rw[HL.out.2.2.2];exact hno) hdis hNn ff1 ff2 (by rw[HL.out.2.2.2];exact ff3)
       rw[HL.out.2.2.2] at j1 j3 j4 j5 d1 d2 hus;obtain⟨y2,hy2⟩:∃y2,y.splitP r c2 q (kd.hi (halfN y.sz)) (kd.lo (halfN y.sz)) (nd.ins ii k0 v0 r)=y2:=⟨_,rfl⟩;have hsz2:y2.sz=y.sz:=by rw[←hy2];rfl
       rw[hy2] at j1 j3 j4 j5 d2 hus;rw[←hsz2] at j5 d2 hke;obtain⟨nd2,hnd2⟩:∃nd2,nd.ins ii k0 v0 r=nd2:=⟨_,rfl⟩;rw[hnd2] at j5 d1 hno;have hks2:=j5.tr.keys j5.nd (j5.srt j4.srt);have hkl3:nd2.keys.length≤300:=by have h1:=(j1.gp.fit j5.nd).1.most;have h2:=j1.gp.szs;unfold mostN at h1;omega
       have hpl2:=bplace_any bn q nd2 N2 k w7 hno.at hks2 (by omega);obtain⟨i2,hi2⟩:∃i,atI nd2.keys k=i:=⟨_,rfl⟩;obtain⟨f2,hf2⟩:∃f,nd2.keys.contains k=f:=⟨_,rfl⟩;rw[hi2] at d1;rw[hi2,hf2] at hpl2;have hil2:i2< nd2.kids.length:=(List.getElem?_eq_some_iff.1 d1).1;have hiN2:(i2:Int)< (nd2.kids.length:Int):=by omega
       obtain⟨cp',cq1,cq2,cq3⟩:=Rp.nd_some d2.nd;have H7:=yH (yA5 hpl2 (yA5 j1 j2 j3 j4 j5) d1 d2 (yA5 hke hus hno hdis (yA4 hNn cq1 cq2 cq3)));clear hpl2 j1 j2 j3 j4 j5 d1 d2 hke hus hno hdis hNn cq1 cq2 cq3 hr hk0 hv0 hbt7 hcg hFn ff1 ff2 ff3 hy2 hnd2 hsz2 hks2 hf2 hi2;go_wp2_with fail
       refine H7.out.1.mono ?_;rintro e w8 ⟨rfl,hg8⟩;have hn8:=(yP6 H7.out).1.grew hg8;have hbt8:=H7.out.2.1.1.grew hg8;have hld:=bload_any t p root e' F2 y2 cp' ke w8 hbt8 (yP8 H7.out).2.1 (yP10 H7.out).1 (yP10 H7.out).2;obtain⟨Ak2,ck2,Av2,cv2,Ac2,cc2,b1, -, -,b4, -⟩:=hn8.at;obtain⟨c0,f0,s0⟩:=b1.facts;obtain⟨g2,off2,rfl,hgl,hx⟩:=b4.2 (by omega)
       have hce:w8.cell? ⟨g2,off2+i2,none⟩=some (.int .i64 e'):=hx i2 _ (by simp[nv,H7.out.2.2.1]);have H8:=yH (yA3 hld hg8 hbt8);clear hld hg8 hn8 hbt8 b1 b4 hx hgl;go_wp2_with fail
       refine H8.out.1.mono ?_;rintro e w9 ⟨b5,N5,rfl,hn9,hN9,hbt9,hc9⟩;clear c0 f0 s0 hce;have H9:=yH (yA4 hn9 hN9 hbt9 hc9);clear hn9 hN9 hbt9 hc9;go_wp2_with fail
       go_roundg (d'+1)
       case measure=>omega
       case rel=>
        obtain⟨j1,j2,j3,j4,j5⟩:=H7.out.2.1;obtain⟨hn9,hN9,hbt9,hc9⟩:=H9.out;have hJ:=HJ.out;have hus:=(yP4 H7.out).2.1;have hu:=hJ.used;have hz8:=H8.out.2.1.size;have hz7:=j2.chg.size;have hlt:=H7.out.2.1.1.gp.lt
        exact⟨b5,d',e',ke,F2,y2,D,P',_,_,_,_,_,_,N5,rfl,rfl,rfl,hbt9,j2.trans ⟨Grew.then H8.out.2.1 hc9,fun j e=> .inl e⟩,j3,j4,H7.out.2.2.2.1,hn9,fun j hj e=>by have:=hN9 j hj;have:=hlt j e;omega,fun j hj=>by have:=hN9 j hj;omega,(yP4 H7.out).1,by omega,hJ.dep,hJ.tl⟩
      ·have hput:=HJ.out.fail H6.out.2.1 (fun j e=> .inl e) hfu (by omega) (fun j e=>e.elim .inl fun e=>e.elim (fun e=> .inr (HJ.out.nw j e)) fun e=> .inr (by have:=H5.out.2.2.1 j e;have:=H6.out.2.2.2;omega))
       have HO:=yH hput;clear hput hfu;go_wp2_with fail
       go_ret
       exact .inr ⟨rfl,HO.out⟩
     ·have t5:decide (2*halfN y.sz - 1≤kd.keys.length)=false:=decide_eq_false hfull
      have t6:decide (2*halfN y.sz≤kd.keys.length+1)=false:=decide_eq_false (by omega);refine H5.out.1.mono ?_;rintro e w6 ⟨rfl,hg6⟩;have hbt6:=H5.out.2.2.2.1.grew hg6;have hld:=bload_any t p root c2 F' y cp kd w6 hbt6 H2.out.2.2.1 H2.out.2.2.2.1 (yP4 H2.out);have hcW:Chg F' wr w6:=(Grew.then H4.out.2.1 (yP4 H5.out)).grew hg6;have hn6:=HJ.out.own.chg hcW HJ.out.nF
      obtain⟨Ak2,ck2,Av2,cv2,Ac2,cc2,b1, -, -,b4, -⟩:=hn6.at;obtain⟨c0,f0,s0⟩:=b1.facts;obtain⟨g2,off2,rfl,hgl,hx⟩:=b4.2 (by omega);have hce:w6.cell? ⟨g2,off2+ii,none⟩=some (.int .i64 c2):=hx ii _ (by simp[nv,H2.out.1]);have hroom:kd.keys.length+1≤2*halfN y.sz - 1:=by omega
      have H6:=yH (yA4 hld hcW hbt6 hroom);clear hld hg6 hn6 hbt6 b1 b4 hx hgl hcW hroom hfull;go_wp2_with fail
      refine H6.out.1.mono ?_;rintro e w9 ⟨b5,N5,rfl,hn9,hN9,hbt9,hc9⟩;clear c0 f0 s0 hce;have H9:=yH (yA4 hn9 hN9 hbt9 hc9);clear hn9 hN9 hbt9 hc9;go_wp2_with fail
      go_roundg (d'+1)
      case measure=>omega
      case rel=>
       obtain⟨hn9,hN9,hbt9,hc9⟩:=H9.out;have hz6:=H6.out.2.1.size;exact⟨b5,d',c2,kd,F',y,D,P,_,_,_,_,_,_,N5,rfl,rfl,rfl,HJ.out.down H2.out.2.1 (Chg.trans H6.out.2.1 hc9 fun _ _ e=>e) hbt9 hn9 (fun j hj=>by have:=hN9 j hj;omega) H6.out.2.2.2⟩
end
section
open Go.RowKit Go.Maps
structure Trop where
 kind:Int
 key:Int
 val:Int
 deriving DecidableEq
def Trop.vals (x:Trop):List Value:=[.int .i64 x.kind,.int .i64 x.key,.int .i64 x.val]
theorem Trop.vals_len (l:List Trop):(l.flatMap Trop.vals).length=l.length*3:=by
 induction l with
 | nil=>rfl
 | cons x l ih=>rw[List.flatMap_cons,List.length_append,ih,List.length_cons];simp only[Trop.vals,List.length_cons,List.length_nil];omega
theorem Trop.vals_at (l:List Trop):∀ (k:Nat) (x:Trop),l[k]? =some x→∀j,j< 3→(l.flatMap Trop.vals)[k*3+j]? =x.vals[j]? :=by
 induction l with
 | nil=>intro k x h;simp at h
 | cons y l ih=>
  intro k x h j hj
  cases k with
  | zero=>
   simp only[List.getElem?_cons_zero,Option.some.injEq] at h;subst h
   rw[List.flatMap_cons,Nat.zero_mul,Nat.zero_add,List.getElem?_append_left (by simp[Trop.vals];omega)]
  | succ k=>
   simp only[List.getElem?_cons_succ] at h;rw[List.flatMap_cons,List.getElem?_append_right (by simp[Trop.vals];omega)];rw[←ih k x h j hj];congr 1
   simp[Trop.vals]
   omega
theorem Sl.atTrop {w:World} {A:Option Addr} {l:List Trop} (h:Sl w 3 A l.length (l.flatMap Trop.vals)) {k:Nat} {x:Trop} (hx:l[k]? =some x) :
  ∃b off,A=some ⟨b,off,none⟩∧b< w.heap.size∧w.cell? ⟨b,off+k*3,none⟩=some (.int .i64 x.kind)∧w.cell? ⟨b,off+k*3+1,none⟩=some (.int .i64 x.key)∧w.cell? ⟨b,off+k*3+2,none⟩=some (.int .i64 x.val):=by
 have hk:k< l.length:=(List.getElem?_eq_some_iff.1 hx).1;obtain⟨b,off,hA,hb,hc⟩:=h.2 (by omega);have hv:=Trop.vals_at l k x hx;refine⟨b,off,hA,hb,?_,?_,?_⟩
 ·have:=hc (k*3+0) (.int .i64 x.kind) ((hv 0 (by omega)).trans rfl)
  simpa [Nat.add_assoc] using this
 ·have:=hc (k*3+1) (.int .i64 x.key) ((hv 1 (by omega)).trans rfl)
  simpa [Nat.add_assoc] using this
 ·have:=hc (k*3+2) (.int .i64 x.val) ((hv 2 (by omega)).trans rfl)
  simpa [Nat.add_assoc] using this
theorem Trop.sl_mk {w:World} {b off:Nat} {l:List Trop} (hb:b< w.heap.size) (h:∀i r,l[i]? =some r→∀j u,r.vals[j]? =some u→w.cell? ⟨b,off+(i*3+j),none⟩=some u):Sl w 3 (some ⟨b,off,none⟩) l.length (l.flatMap Trop.vals):=by
 refine⟨Trop.vals_len l,fun _=>⟨b,off,rfl,hb,fun j u hu=>?_⟩⟩
 have hj:j< l.length*3:=by
  rw[←Trop.vals_len l];exact(List.getElem?_eq_some_iff.1 hu).1
 have hi:j / 3< l.length:=by omega
 have hr:l[j / 3]? =some l[j / 3]:=List.getElem?_eq_getElem hi;have he:j=j / 3*3+j % 3:=by omega
 have hv:=Trop.vals_at l (j / 3) _ hr (j % 3) (by omega);rw[←he,hu] at hv;have:=h (j / 3) _ hr (j % 3) u hv.symm;rwa[←he] at this
def Trop.ok (x:Trop):Prop:= -9223372036854775808≤x.kind∧x.kind≤9223372036854775807∧ -9223372036854775808≤x.key∧x.key≤9223372036854775807∧ -9223372036854775808≤x.val∧x.val≤9223372036854775807
def stL (L:List KV) (o:Trop):List KV:=if o.kind=1 then putL L o.key o.val else if o.kind=2 then delL L o.key else L
theorem del_sure {w w':World} {t p root D K:Nat} {F:Nat→Prop} {x0 x:Rp} {k:Int} {L:List KV} {P:List Nat} {e:Ending} (h:DeOut w w' t p root F x L k e) (hb:BT w t p root F x) (hr:x0.roomy K) (hl:x0.like x) (hs:TS x D root L P) (hh:2≤halfN x.sz) (hK:L.length+1≤K) :
  ∃y F' D' P',BT w' t p root F' y∧Rch F F' w w'∧x0.like y∧TS y D' root (delL L k) P'∧((e= .returned (.int .i64 0)∧∃v,getK L k=some v)∨(e= .returned (.int .i64 14)∧getK L k=none)):=by
 rcases h with ⟨rfl,h0,y,F',D',P',h1,h2,h3,h4⟩ | ⟨rfl,h1,h2,h3⟩ | ⟨rfl,z, -,h2,h3,h4⟩
 ·exact⟨y,F',D',P',h1,h2,hl.trans h3,h4,.inl ⟨rfl,h0⟩⟩
 ·refine⟨x,F,D,P,h2,⟨h3,fun j e=> .inl e⟩,hl,?_,.inr ⟨rfl,h1⟩⟩
  have e:delL L k=L:=delL_free fun y hy e=>by
   unfold getK at h1;rw[Option.map_eq_none_iff,List.find?_eq_none] at h1;exact h1 y hy (by simpa using e)
  rw[e];exact hs
 ·exact absurd (never_full hr (hl.trans h2) (by have:=hs.used;have:=hs.tr.pages hh;omega)) h4
theorem fd_some {L:List KV} {k r:Int} (hs:Srt L) (h:FdOut L k r):(∃ (i:Nat) (v:Int),r=i∧L[i]? =some (k,v)∧getK L k=some v)∨(r= -1∧getK L k=none):=by
 rcases h with ⟨i,x,rfl,h1,h2⟩ | ⟨rfl,h1⟩
 ·left
  obtain⟨a,b⟩:=x;simp only at h2;subst h2;exact⟨i,b,rfl,h1,getK_mem hs (List.mem_of_getElem? h1)⟩
 ·exact .inr ⟨rfl,getK_none h1⟩
def StpOut (w w':World) (t p root:Nat) (F:Nat→Prop) (x0:Rp) (A:Option Addr) (R:List KV) (e:Ending):Prop:=
 ∃A' c' y F' D' P',e= .returned (.tuple #[.slice A' R.length c',.bool true])∧BT w' t p root F' y∧Rch F F' w w'∧x0.like y∧TS y D' root R P'∧Sl w' 2 A' R.length (kvs2 R)∧∀a,A'=some a→¬F' a.block∧a.block< w'.heap.size∧(A=some a∨w.heap.size≤a.block)
theorem bstep_any (t p root D K c:Nat) (L:List KV) (P:List Nat) (F:Nat→Prop) (x0 x:Rp) (A:Option Addr) (o:Trop) (w:World) (hb:BT w t p root F x) (hr:x0.roomy K) (hx:x0.like x) (hs:TS x D root L P) (hl:L.length≤1000) (hK:L.length+3≤K) (hok:o.ok) (hsl:Sl w 2 A L.length (kvs2 L)) (hA:∀a,A=some a→¬F a.block∧a.block< w.heap.size) :
  Calls prog 15 #[.pointer (some ⟨t,0,none⟩),.slice A L.length c,(.agg #[.int .i64 o.kind,.int .i64 o.key,.int .i64 o.val])] w fun e w'=>StpOut w w' t p root F x0 A (stL L o) e:=by
 obtain⟨W0,hW0⟩:∃W,w.alloc (.cells #[.int .i64 o.kind,.int .i64 o.key,.int .i64 o.val] 37)=W:=⟨_,rfl⟩;have hg0:Grew w W0:=hW0▸(Chg.refl _ _).alloc _;have hbx:Blk W0 w.heap.size 37 #[.int .i64 o.kind,.int .i64 o.key,.int .i64 o.val]:=hW0▸Blk.new w _ _;have hz:=hb.gp.szs;have hh:=half_two hz.2.2.1;have hD:=hs.depth hh hl
 have hw:x.was≠none:=by rw[hx.was];exact hr.1
 have hfd:=xfind_any o.key L A c W0 (hsl.grew hg0) (by omega);have hz0:W0.heap.size=w.heap.size+1:=by subst hW0;simp
 have H:=yH (yA5 hfd (hb.grew hg0) hr hx (yA5 hs hok (hsl.grew hg0) hA (yA5 hW0 hg0 hbx hh (yA hw hb))));have HF:=yH hb.gp.lt;have Hz:=yH hz0;clear hfd hb hr hx hs hok hsl hA hW0 hg0 hbx hz hh hw hz0;go_enter func15,ntmps15
 go_wp2_with fail
 rw[(yP8 H.out).1];refine H.out.1.mono ?_;rintro e w1 ⟨r,rfl,hfo,rfl⟩;obtain⟨c0,f0,s0⟩:=(yP10 H.out).1.facts;have HFO:=yH (fd_some (yP4 H.out).1.srt hfo);clear hfo;by_cases hk1:o.kind=1
 ·have hst:stL L o=putL L o.key o.val:=by unfold stL;rw[if_pos hk1]
  have t1:(o.kind==1)=true:=by simp[hk1]
  have hxp:=xput_any o.key o.val L A c W0.drew ((yP6 H.out).1.grew (Chg.refl NoF _).drew) (by omega) (yP4 H.out).1.srt;have HP:=yH (yA hxp hst);have hd1:(fun w':World=>w'.cell? ⟨w.heap.size,1,none⟩=some (.int .i64 o.key)∧w'.cell? ⟨w.heap.size,2,none⟩=some (.int .i64 o.val)) W0.drew:=⟨(yP10 H.out).1.drew.cell 1,(yP10 H.out).1.drew.cell 2⟩;clear hxp hst hk1;go_wp2_with fail
  refine wp_region_held_drew (S:=fun w'=>w'.cell? ⟨w.heap.size,1,none⟩=some (.int .i64 o.key)∧w'.cell? ⟨w.heap.size,2,none⟩=some (.int .i64 o.val)) (by kernel_rfl) hd1 (fun hHeld=>?_);refine Todo.out (is:=[0,1,2,3,4,6,7,8,9,10]) ?_
  repeat
   refine tkH (v:=?_) rfl (Or.inl ⟨by rfl,?_⟩) hHeld ?_;rotate_left
   ·(intro w hSw;(try dsimp only at hSw);go_simp)<;>with_reducible rfl
   (try simp only[Act.put,lZ])
  refine Todo.fin ?_;refine rdH (i:=5) (by kernel_rfl) rfl fun K hK=>?_;go_simp;refine HP.out.1.mono ?_;rintro e w2 ⟨A2,c2,rfl,ho2,hg2⟩;have hg02:Grew W0 w2:=Grew.trans ((Chg.refl NoF _).drew) hg2;have hb2:=H.out.2.1.grew hg02;have hbx2:=(yP10 H.out).1.grew hg02
  have hd2:(fun w':World=>w'.cell? ⟨w.heap.size,1,none⟩=some (.int .i64 o.key)∧w'.cell? ⟨w.heap.size,2,none⟩=some (.int .i64 o.val)) w2:=⟨hbx2.cell 1,hbx2.cell 2⟩;have hpu:=bput2_any t p root D o.key o.val L P F x w2 hb2 (yP12 H.out).1 (yP4 H.out).1 hl ⟨(yP4 H.out).2.1.2.2.1,(yP4 H.out).2.1.2.2.2.1⟩ ⟨(yP4 H.out).2.1.2.2.2.2.1,(yP4 H.out).2.1.2.2.2.2.2⟩
  have H2:=yH (yA5 hpu ho2 hg02 hbx2 hg2);clear hpu ho2 hg02 hb2 hbx2 hg2;refine hK.out _ _ hd2 (fun _=>?_);clear hK K;(try simp only[Act.put,lZ])
  refine rdH (i:=11) (by kernel_rfl) rfl fun K hK=>?_;go_simp;refine H2.out.1.mono ?_;rintro e w3 hpu;obtain⟨rfl,y,F',D',P',b1,b2,b3,b4⟩:=put_sure hpu H.out.2.2.1 H.out.2.2.2.1 (yP4 H.out).1 (yP10 H.out).2.1 (by omega);have hbl:=H2.out.2.2.2.1.lt;have hrch:Rch F F' w w3:=(Rch.grew (Grew.trans (yP8 H.out).2.1 H2.out.2.2.1)).trans b2
  have hout:StpOut w w3 t p root F x0 A (stL L o) (.returned (.tuple #[.slice A2 (putL L o.key o.val).length c2,.bool true])):=by
   refine⟨A2,c2,y,F',D',P',by rw[HP.out.2],b1,hrch,b3,by rw[HP.out.2];exact b4,?_,fun a ha=>?_⟩
   ·rw[HP.out.2]
    exact(Sl.of_own H2.out.2.1).chg b2.chg fun a ha e=>by have h1:=(own_rng H2.out.2.1 a ha).1;have h2:=HF.out _ e;have:=(yP8 H.out).2.1.size;simp at h1;omega
   ·have h1:=own_rng H2.out.2.1 a ha
    have:=b2.chg.size;have h3:=(yP8 H.out).2.1.size;simp at h1
    exact⟨fun e=>(b2.new _ e).elim (fun e=>by have:=HF.out _ e;omega) fun e=>by omega,by omega,.inr (by omega)⟩
  have hd3:(fun w':World=>w'.cell? ⟨w.heap.size,1,none⟩=some (.int .i64 o.key)∧w'.cell? ⟨w.heap.size,2,none⟩=some (.int .i64 o.val)) w3:=by
   have h9:=H2.out.2.2.2.1.chg b2.chg fun e=>by have:=HF.out _ e;omega
   exact⟨h9.cell 1,h9.cell 2⟩
  have HO:=yH hout;clear hout hrch b1 b2 b3 b4 hbl hpu;refine hK.out _ _ hd3 (fun _=>?_);clear hK K;(try simp only[Act.put,lZ])
  refine Todo.out (is:=[12,13,14]) ?_
  repeat
   refine tkH (v:=?_) rfl (Or.inl ⟨by rfl,?_⟩) hd3 ?_;rotate_left
   ·(intro w hSw;(try dsimp only at hSw);go_simp)<;>with_reducible rfl
   (try simp only[Act.put,lZ])
  refine Todo.fin ?_;refine wpAnyH_done (by kernel_rfl) ?_ _;clear hHeld hd1 hd2 hd3 c0 f0 s0;go_wp2_with fail
  go_ret2
  exact HO.out
 have t1:(o.kind==1)=false:=by simp[hk1]
 by_cases hk2:o.kind=2
 ·have hst:stL L o=delL L o.key:=by unfold stL;rw[if_neg hk1,if_pos hk2]
  have t2:(o.kind==2)=true:=by simp[hk2]
  have hde:=bdel2_any t p root D o.key L P F x W0 H.out.2.1 (yP12 H.out).1 (yP4 H.out).1 hl;have HP:=yH (yA hde hst);clear hde hst hk1 hk2;go_wp2_with fail
  refine HP.out.1.mono ?_;clear c0 f0 s0;rintro e w2 hdo;obtain⟨y,F',D',P',b1,b2,b3,b4,b5⟩:=del_sure hdo H.out.2.1 H.out.2.2.1 H.out.2.2.2.1 (yP4 H.out).1 (yP10 H.out).2.1 (by omega);have hFb:¬F w.heap.size:=fun e=>by have:=HF.out _ e;omega
  have hbx2:=(yP10 H.out).1.chg b2.chg hFb;have hs2:=(yP6 H.out).1.chg b2.chg fun a ha=>((yP6 H.out).2.1 a ha).1;have hxd:=xdel_any o.key L A c w2 hs2 (by omega);have hrch:Rch F F' w w2:=(Rch.grew (yP8 H.out).2.1).trans b2;have H2:=yH (yA5 hxd b1 hrch b3 b4);have H5:=yH b5;have hF2:=b1.gp.lt;have HF2:=yH hF2;obtain⟨c0,f0,s0⟩:=hbx2.facts
  clear hdo b1 b2 b3 b4 b5 hFb hbx2 hs2 hxd hrch hF2
  have hfin:∀ (A2:Option Addr) (c2:Nat) (w3:World),w3.ownsRow w2.heap.size 41 2 (.slice A2 (delL L o.key).length c2) (delL L o.key).length (kvs2 (delL L o.key))→Grew w2 w3→StpOut w w3 t p root F x0 A (stL L o) (.returned (.tuple #[.slice A2 (delL L o.key).length c2,.bool true])):=fun A2 c2 w3 ho hg=>
   ⟨A2,c2,y,F',D',P',by rw[HP.out.2],H2.out.2.1.grew hg,H2.out.2.2.1.trans (Rch.grew hg),H2.out.2.2.2.1,by rw[HP.out.2];exact(yP4 H2.out),by rw[HP.out.2];exact Sl.of_own ho,fun a ha=>by have h1:=own_rng ho a ha;exact⟨fun e=>by have:=HF2.out _ e;omega,h1.2,.inr (by have:=H2.out.2.2.1.chg.size;omega)⟩⟩
  have HFIN:=yH hfin;clear hfin;rcases HFO.out with ⟨i,v,rfl,hi,hg⟩ | ⟨rfl,hg⟩
  case' _=>
   rcases H5.out with ⟨rfl, -⟩ | ⟨-,h9⟩
   rotate_left
   ·rw[hg] at h9;cases h9
   have t3:decide ((0:Int)≤(i:Int))=true:=decide_eq_true (by omega);clear hi hg
  rotate_left
  case' _=>
   rcases H5.out with ⟨-,v,h9⟩ | ⟨rfl, -⟩
   ·rw[hg] at h9;cases h9
   clear hg
  rotate_left
  all_goals
   go_wp2_with fail
   refine H2.out.1.mono ?_;rintro e w3 ⟨A2,c2,rfl,ho2,hg2⟩;have HO:=yH (HFIN.out A2 c2 w3 ho2 hg2);clear ho2 hg2;go_wp2_with fail
   go_ret2
   exact HO.out
 have hst:stL L o=L:=by unfold stL;rw[if_neg hk1,if_neg hk2]
 have t2:(o.kind==2)=false:=by simp[hk2]
 by_cases hk3:o.kind=3
 ·have t3:(o.kind==3)=true:=by simp[hk3]
  have hge:=bget2_any t p root (halfN x.sz) D o.key L P F x W0 H.out.2.1 (yP4 H.out).1.tr (yP4 H.out).1.srt (by omega) (yP4 H.out).1.nd;have HP:=yH (yA hge hst);clear hge hst hk1 hk2 hk3;go_wp2_with fail
  refine HP.out.1.mono ?_;clear c0 f0 s0;rintro e w2 ⟨rfl,b1,b2⟩;have hs2:=(yP6 H.out).1.chg b2 fun a ha=>((yP6 H.out).2.1 a ha).1
  have hout:StpOut w w2 t p root F x0 A (stL L o) (.returned (.tuple #[.slice A L.length c,.bool true])):=by
   have hz:=(yP8 H.out).2.1.size;have hz2:=b2.size;exact⟨A,c,x,F,D,P,by rw[HP.out.2],b1,(Rch.grew (yP8 H.out).2.1).trans ⟨b2,fun j e=> .inl e⟩,H.out.2.2.2.1,by rw[HP.out.2];exact(yP4 H.out).1,by rw[HP.out.2];exact hs2,fun a ha=>by have:=(yP6 H.out).2.1 a ha;exact⟨this.1,by omega,.inl ha⟩⟩
  have HO:=yH hout;have HS2:=yH hs2;clear hout hs2 b1 b2;rcases HFO.out with ⟨i,v,rfl,hi,hg⟩ | ⟨rfl,hg⟩
  ·rw[hg]
   simp only[gV,gE];have t4:decide ((0:Int)≤(i:Int))=true:=decide_eq_true (by omega);have hiL:i< L.length:=(List.getElem?_eq_some_iff.1 hi).1;have hiI:(i:Int)< (L.length:Int):=by omega
   obtain⟨b,off,rfl,hbl,hc1,hc2⟩:=HS2.out.atKv hi;simp only at hc1 hc2;have t5:(v==v)=true:=by simp
   clear hi hg hbl;go_wp2_with fail
   go_ret2
   exact HO.out
  ·rw[hg]
   simp only[gV,gE];clear hg;go_wp2_with fail
   go_ret2
   exact HO.out
 ·have t3:(o.kind==3)=false:=by simp[hk3]
  have hout:StpOut w W0 t p root F x0 A (stL L o) (.returned (.tuple #[.slice A L.length c,.bool true])):=by
   have hz:=(yP8 H.out).2.1.size;exact⟨A,c,x,F,D,P,by rw[hst],H.out.2.1,Rch.grew (yP8 H.out).2.1,H.out.2.2.2.1,by rw[hst];exact(yP4 H.out).1,by rw[hst];exact(yP6 H.out).1,fun a ha=>by have:=(yP6 H.out).2.1 a ha;exact⟨this.1,by omega,.inl ha⟩⟩
  have HO:=yH hout;clear hout hst hk1 hk2 hk3;go_wp2_with fail
  go_ret2
  exact HO.out
end
section
open Go.RowKit Go.Maps
attribute [local go_sem] Oper.semAt_some
theorem bsame_any (t p root D:Nat) (L:List KV) (P:List Nat) (F:Nat→Prop) (x:Rp) (A:Option Addr) (c:Nat) (w:World) (hb:BT w t p root F x) (hs:TS x D root L P) (hD:D< 40) (hl:L.length≤1000) (hsl:Sl w 2 A L.length (kvs2 L)) (hAF:∀a,A=some a→¬F a.block∧a.block< w.heap.size) :
  Calls prog 13 #[.pointer (some ⟨t,0,none⟩),.slice A L.length c] w fun e w'=>e= .returned (.bool true)∧BT w' t p root F x∧Chg F w w':=by
 obtain⟨W0,hW0⟩:∃W0,((w.alloc (.cells #[.slice A L.length c] 29)).alloc (.cells #[.bool false] 4)).alloc (.cells #[.int .i64 0] 3)=W0:=⟨_,rfl⟩;obtain⟨W1,hW1⟩:∃W1,(W0.alloc (.cells #[.pointer (some ⟨t,0,none⟩)] 24)).alloc (.cells #[.int .i64 (-9223372036854775808)] 3)=W1:=⟨_,rfl⟩;have hz0:W0.heap.size=w.heap.size+3:=by subst hW0;simp
 have hz1:W1.heap.size=w.heap.size+5:=by subst hW1;simp[hz0]
 have hg0:Grew w W0:=hW0▸(((Chg.refl _ _).alloc _).alloc _).alloc _;have hg1:Grew W0 W1:=hW1▸((Chg.refl _ _).alloc _).alloc _;have hx1:Blk W1 w.heap.size 29 #[.slice A L.length c]:=(show Blk W0 w.heap.size 29 #[.slice A L.length c] from hW0▸((Blk.new _ _ _).alloc _).alloc _).grew hg1
 have hr1:Blk W1 (w.heap.size+1) 4 #[.bool false]:=(show Blk W0 (w.heap.size+1) 4 #[.bool false] from hW0▸(by have:=(Blk.new (w.alloc (.cells #[.slice A L.length c] 29)) 4 #[.bool false]).alloc (.cells #[.int .i64 0] 3);simpa using this)).grew hg1
 have hn1:Blk W1 (w.heap.size+2) 3 #[.int .i64 0]:=(show Blk W0 (w.heap.size+2) 3 #[.int .i64 0] from hW0▸(by have:=Blk.new ((w.alloc (.cells #[.slice A L.length c] 29)).alloc (.cells #[.bool false] 4)) 3 #[.int .i64 0];simpa using this)).grew hg1
 have hb1:Blk W1 (w.heap.size+3) 24 #[.pointer (some ⟨t,0,none⟩)]:=by
  have:=(Blk.new W0 24 #[.pointer (some ⟨t,0,none⟩)]).alloc (.cells #[.int .i64 (-9223372036854775808)] 3);rw[hW1,hz0] at this;exact this
 have hb2:Blk W1 (w.heap.size+4) 3 #[.int .i64 (-9223372036854775808)]:=by
  have:=Blk.new (W0.alloc (.cells #[.pointer (some ⟨t,0,none⟩)] 24)) 3 #[.int .i64 (-9223372036854775808)];rw[hW1] at this;simpa [hz0] using this
 have hea:=beach_any t (-9223372036854775808) W0 W1 hW1;rw[hz0] at hea;have H:=yH (yA5 hb hs hea hW0 (yA5 hn1 hb1 hb2 (Grew.trans hg0 hg1) hz1));have HX:=yH (yA4 hx1 hr1 hsl hAF);clear hb hs hea hW0 hW1 hn1 hb1 hb2 hg0 hg1 hz0 hz1 hx1 hr1 hsl hAF
 (refine calls_of_marks func13 rfl ?_;simp only[ntmps13,List.size_toArray,List.length_cons,List.length_nil,Nat.reduceAdd,Nat.reduceSub,Array.replicate_succ,Array.replicate_zero,List.push_toArray,List.append_toArray,List.nil_append,List.cons_append])
 go_wp2_with fail
 rw[H.out.2.2.2.1];refine H.out.2.2.1.mono ?_;rintro e w1 ⟨rfl,rfl⟩;go_wp2_with fail
 refine wp_range (gf:=48) (lb:= #[.pointer (some ⟨w.heap.size+3,0,none⟩),.pointer (some ⟨w.heap.size+3+1,0,none⟩)]) rfl (enters_of func48 (by kernel_rfl) rfl) ?_;intro r Wr D2 Lr hr hgr hDl hLl hD2' hR;have hDL:=Ne.symm (hR.ne_dfr hD2');have hsr:=hgr.size;have hz1:=(yP8 H.out);have hL2:=hR.lt;have hD2:=hD2'.lt;have htl:=H.out.1.blk.lt
 have hpos:=tab_pos H.out.1.gp.tab;have hFl:=H.out.1.gp.lt
 have hA:LnA Wr t F (w.heap.size+3) (w.heap.size+4) (w.heap.size+2) Lr:=⟨⟨fun e=>by have:=hFl _ e;omega,by omega,by omega,by omega,by omega,by omega⟩,⟨fun e=>by have:=hFl _ e;omega,by omega,by omega,by omega,by omega⟩,⟨fun e=>by have:=hFl _ e;omega,fun e=>by have:=hFl _ e;omega⟩,⟨hL2,by omega,by omega,by omega⟩⟩
 have hgw:Grew w Wr:=Grew.trans (yP6 H.out).2.1 hgr;have hJ0:LnJ Wr Wr t p root F x (w.heap.size+3) (w.heap.size+4) (w.heap.size+2) Lr 0 r .ready none:=⟨H.out.1.grew hgw,(yP4 H.out).2.1.grew hgr,(yP6 H.out).1.grew hgr,Chg.refl _ _,(yP4 H.out).1.grew hgr,hR⟩;have HR1:=yH (yA5 hr hA hJ0 hgw hD2')
 have HXr:=yH (yA3 (HX.out.1.grew hgr) (HX.out.2.1.grew hgr) (HX.out.2.2.1.grew hgw));clear hr hA hJ0 hgw hD2' hR hgr
 refine(beach_iter (w.heap.size+3) (w.heap.size+4) t p root Lr D (-9223372036854775808) F x L P (fun k W=>LnJ Wr W t p root F x (w.heap.size+3) (w.heap.size+4) (w.heap.size+2) Lr k r .ready none) (fun _=>False) Wr H.out.2.1
  (fun k W h=>⟨h.b0,h.b1,h.b2⟩) (fun W h=>h.elim) (fun k W W' h hc hb=>h.far HR1.out.2.1 hc hb) (fun k a b W h hk=>?yld) HR1.out.2.2.1).mono ?post
 case yld=>
  rw[H.out.2.1.least H.out.1.gp] at hk;have hkL:k< L.length:=(List.getElem?_eq_some_iff.1 hk).1;have HJ:=yH h;have HK:=yH hk;clear h hk;obtain⟨hr1,hr2,hr3,hr4⟩:=HR1.out.1;refine yield_wide HJ.out.rc (by rw[hr2];rfl) ?_;rw[hr1,hr2,hr3,hr4];clear hr1 hr2 hr3 hr4;intro K hK;have HKK:=yH hK;clear hK;gi_wp2
  refine HKK.out _ _ HJ.out.rc fun W3 Q hk3 hR2 hQ=>?_;have HQ:=yH hQ;have HJ3:=yH (HJ.out.kept HR1.out.2.1 hk3 hR2);have HK3:=yH hk3;clear hk3 hR2 hQ
  have hfar:∀j,(F j∨j=w.heap.size+2∨j=Lr)→j≠w.heap.size∧∀a,A=some a→a.block≠j:=fun j e=>by
   refine⟨by rcases e with e | e | e;(have:=hFl _ e;omega);omega;omega,fun a ha e2=>?_⟩;have h9:=HX.out.2.2.2 a ha;rcases e with e | e | e
   ·exact h9.1 (e2▸e)
   ·omega
   ·omega
  obtain⟨c0,f0,s0⟩:=HJ3.out.cnt.facts;obtain⟨c1,f1,s1⟩:=(HXr.out.1.chg HJ3.out.chg fun e=>(hfar _ e).1 rfl).facts;obtain⟨gx,ox,hA1,hgx,hx1,hx2⟩:=Sl.atKv (HXr.out.2.2.chg HJ3.out.chg fun a ha e=>(hfar _ e).2 a ha rfl) HK.out;subst hA1;have t1:decide ((L.length:Int)≤(k:Int))=false:=decide_eq_false (by omega)
  have t1':decide (L.length≤k)=false:=decide_eq_false (by omega);have hkL2:(k:Int)< (L.length:Int):=by omega
  clear hfar hgx;simp only at hx1 hx2;gi_wp2
  obtain⟨W5,hW5⟩:∃W5,W3.setCell ⟨w.heap.size+2,0,none⟩ (.int .i64 ((k+1:Nat):Int))=W5:=⟨_,rfl⟩;have hJ5:=HJ3.out.set HR1.out.2.1 hW5;have hW5':W3.setCell ⟨w.heap.size+1+1,0,none⟩ (.int .i64 ((k:Int)+1))=W5:=by rw[←hW5];simp
  rw[hW5'];have hc5:Chg (fun j=>j=w.heap.size+2) W3 W5:=hW5▸(Chg.refl (fun j=>j=w.heap.size+2) W3).setCell (p:=⟨w.heap.size+2,0,none⟩) (fun _=>rfl) _;have hl:=HR1.out.2.1.lt
  exact HQ.out _ _ _ ⟨hJ5.rc,fun w' hk' hR'=>⟨.inl ⟨rfl,hJ5.kept HR1.out.2.1 hk' hR'⟩,Chg.trans (Chg.trans (HK3.out.chg.mono fun j _ e=>by omega) hc5 fun j _ e=>by omega) hk'.chg fun j _ e=>by omega⟩⟩
 case post=>
  rintro e w3 ⟨hv,hJ | hJ⟩;rotate_left
  ·exact hJ.elim
  rw[H.out.2.1.least H.out.1.gp] at hJ;refine⟨hv,.inl ⟨hJ.rc,fun w4 hk4=>?_⟩⟩
  have hfar:∀j,(F j∨j=w.heap.size+2∨j=Lr)→j≠w.heap.size∧j≠w.heap.size+1∧∀a,A=some a→a.block≠j:=fun j e=>by
   refine⟨by rcases e with e | e | e;(have:=hFl _ e;omega);omega;omega,by rcases e with e | e | e;(have:=hFl _ e;omega);omega;omega,fun a ha e2=>?_⟩;have h9:=HX.out.2.2.2 a ha;rcases e with e | e | e
   ·exact h9.1 (e2▸e)
   ·omega
   ·omega
  have hc4:=Chg.trans hJ.chg hk4.chg fun i _ e=> .inr (.inr e);have hD4:=(yP4 HR1.out).chg hc4 (fun e=>by rcases e with e | e | e;(have:=hFl _ e;omega);omega;omega);have hb4:=hJ.b0.chg hk4.chg (fun j hj e=>HR1.out.2.1.l.1 (e▸hj)) (fun e=>HR1.out.2.1.l.2.2.2.2.2 e.symm) (fun e=>HR1.out.2.1.l.2.1 e.symm);have hn4:=hJ.cnt.kept hk4
  have hx4:=HXr.out.1.chg hc4 fun e=>(hfar _ e).1 rfl;have hr4:=HXr.out.2.1.chg hc4 fun e=>(hfar _ e).2.1 rfl;have hs4:=HXr.out.2.2.chg hc4 fun a ha e=>(hfar _ e).2.2 a ha rfl;have hle:=bleast_any t p root D L P F x w4 hb4 H.out.2.1 hD;obtain⟨a1,ha1⟩:∃v,edA L.head? =v:=⟨_,rfl⟩;obtain⟨a2,ha2⟩:∃v,edB L.head? =v:=⟨_,rfl⟩
  obtain⟨a3,ha3⟩:∃v,edE L.head? =v:=⟨_,rfl⟩;obtain⟨z1,hz1'⟩:∃v,edA L.getLast? =v:=⟨_,rfl⟩;obtain⟨z2,hz2'⟩:∃v,edB L.getLast? =v:=⟨_,rfl⟩;obtain⟨z3,hz3'⟩:∃v,edE L.getLast? =v:=⟨_,rfl⟩;rw[ha1,ha2,ha3] at hle;have H4:=yH (yA5 hc4 hD4 hb4 hn4 (yA4 hx4 hr4 hs4 hle));have HV:=yH (yA5 ha1 ha2 ha3 hz1' (yA hz2' hz3'))
  clear hc4 hD4 hb4 hJ hk4 hn4 hx4 hr4 hs4 hle ha1 ha2 ha3 hz1' hz2' hz3' hfar;go_wp2_with fail
  refine(yP6 H4.out).2.mono ?_;rintro e w5 ⟨rfl,hb5,hc5⟩;have hgr:=bgreatest_any t p root D L P F x w5 hb5 H.out.2.1 hD;rw[HV.out.2.2.2.1,(yP4 HV.out).1,(yP4 HV.out).2] at hgr;have H5:=yH (yA3 hgr hb5 hc5);clear hgr hb5 hc5;go_wp2_with fail
  refine H5.out.1.mono ?_;rintro e w6 ⟨rfl,hb6,hc6⟩;have hc46:Chg F w4 w6:=Chg.trans H5.out.2.2 hc6 fun _ _ e=>e;have hn6:=H4.out.2.2.2.1.chg hc46 fun e=>by have:=hFl _ e;omega
  have hx6:=(yP4 H4.out).1.chg hc46 fun e=>by have:=hFl _ e;omega
  have hr6:=(yP4 H4.out).2.1.chg hc46 fun e=>by have:=hFl _ e;omega
  have hs6:=(yP6 H4.out).1.chg hc46 fun a ha e=>(HX.out.2.2.2 a ha).1 e;have H6:=yH (yA5 hb6 hc46 hn6 hx6 (yA hr6 hs6))
  have hfin:∀W8,BT W8 t p root F x→Chg (fun j=>F j∨j=w.heap.size+1) w6 W8→Dfr W8 D2∧∀w9,Kept D2 W8 w9→BT w9 t p root F x∧Chg F w w9:=fun W8 hb8 hc8=>by
   have hc48:Chg (fun j=>F j∨j=w.heap.size+1) w4 W8:=Chg.trans (hc46.mono fun j _ e=> .inl e) hc8 fun _ _ e=>e;refine⟨H4.out.2.1.chg hc48 (fun e=>e.elim (fun e=>by have:=hFl _ e;omega) fun e=>by omega),fun w9 hk9=>⟨hb8.chg hk9.chg (fun j hj e=>by have:=hFl j hj;omega) (fun e=>by omega) (fun e=>by omega),?_⟩⟩
   have h1:Chg (fun j=>F j∨w.heap.size≤j) w w4:=Chg.trans HR1.out.2.2.2.1.chg H4.out.1 fun j _ e=>by rcases e with e | e | e;exact .inl e;exact .inr (by omega);exact .inr (by omega)
   have h2:Chg (fun j=>F j∨w.heap.size≤j) w W8:=Chg.trans h1 hc48 fun j _ e=>e.imp id fun e=>by omega
   have h3:Chg (fun j=>F j∨w.heap.size≤j) w w9:=Chg.trans h2 hk9.chg fun j _ e=> .inr (by omega);exact h3.mono fun j hj e=>e.resolve_right (by omega)
  have HF:=yH hfin;clear hb6 hc6 hc46 hs6 hfin;by_cases hL0:L.length=0
  ·have hLn:L=[]:=List.eq_nil_of_length_eq_zero hL0
   have e3:a3=14:=by rw[←HV.out.2.2.1,hLn];rfl
   have e6:z3=14:=by rw[← (yP4 HV.out).2,hLn];rfl
   subst e3 e6;rw[hL0] at hn6 hx6;clear hLn hL0;obtain⟨c0,f0,s0⟩:=hn6.facts;obtain⟨c1,f1,s1⟩:=hx6.facts;obtain⟨c2,f2,s2⟩:=hr6.facts;clear hn6 hx6 hr6;go_wp2_with fail
   obtain⟨W8,hW8⟩:∃W8,w6.setCell ⟨w.heap.size+1,0,none⟩ (.bool true)=W8:=⟨_,rfl⟩;rw[hW8];have hc8:Chg (fun j=>F j∨j=w.heap.size+1) w6 W8:=hW8▸(Chg.refl _ w6).setCell (p:=⟨w.heap.size+1,0,none⟩) (fun _=> .inr rfl) _
   have hb8:BT W8 t p root F x:=H6.out.1.chg (hW8▸(Chg.refl (fun j=>j=w.heap.size+1) w6).setCell (p:=⟨w.heap.size+1,0,none⟩) (fun _=>rfl) _) (fun j hj e=>by have:=hFl j hj;omega) (fun e=>by omega) (fun e=>by omega)
   have hr8:Blk W8 (w.heap.size+1) 4 #[.bool true]:=by
    have:=(yP4 H6.out).1.put 0 (.bool true);rw[hW8] at this;simpa using this
   obtain⟨hd8,hk8⟩:=HF.out W8 hb8 hc8;refine postM_ret1 (v:= .bool true) (D:=D2) hd8 rfl fun w9 hk9=>?_;obtain⟨c5,f5,s5⟩:=(hr8.kept hk9).facts;exact⟨by simp[results,results13,go_sem,c5,s5],rfl,hk8 w9 hk9⟩
  ·obtain⟨m,hm⟩:∃m,L.length=m+1:=⟨L.length - 1,by omega⟩
   obtain⟨y0,hy0⟩:∃y,L[0]? =some y:=⟨_,List.getElem?_eq_getElem (by omega)⟩;obtain⟨ym,hym⟩:∃y,L[m]? =some y:=⟨_,List.getElem?_eq_getElem (by omega)⟩;have hh:L.head? =some y0:=by rw[List.head?_eq_getElem?];exact hy0
   have hg:L.getLast? =some ym:=by rw[List.getLast?_eq_getElem?,hm];exact hym
   obtain⟨e1,e2,e3,e4,e5,e6⟩:=HV.out;rw[hh] at e1 e2 e3;rw[hg] at e4 e5 e6;simp only[edA,edB,edE] at e1 e2 e3 e4 e5 e6;subst e1 e2 e3 e4 e5 e6;have hs6:=(yP4 H6.out).2;obtain⟨gx,ox,hA1,hgx,hx1,hx2⟩:=Sl.atKv hs6 hy0;obtain⟨gx',ox',hA2, -,hx3,hx4⟩:=Sl.atKv hs6 hym;subst hA1;injection hA2 with hA2;injection hA2 with h1 h2;subst h1 h2
   rw[Nat.zero_mul,Nat.add_zero] at hx1 hx2;have hAg:=HX.out.2.2.2 _ rfl;simp only at hAg;have hbl:=H6.out.1;have hlen:=blen_any t p root D L P F x w6.drew (hbl.grew ((Chg.refl NoF w6).drew)) H.out.2.1 (by omega);rw[hm] at hn6 hx6 hlen;have hm3:m≤1000:=by omega
   have hmi:(m:Int)< (m:Int)+1:=by omega
   have HLn:=yH (yA3 hlen hAg hbl);obtain⟨c0,f0,s0⟩:=hn6.facts;obtain⟨c1,f1,s1⟩:=hx6.facts;obtain⟨c2,f2,s2⟩:=hr6.facts
   have hS:w6.drew.cell? ⟨w.heap.size+2,0,none⟩=some (.int .i64 ((m:Int)+1))∧w6.drew.cell? ⟨w.heap.size,0,none⟩=some (.slice (some ⟨gx,ox,none⟩) (m+1) c)∧w6.drew.cell? ⟨gx,ox,none⟩=some (.int .i64 y0.1)∧w6.drew.cell? ⟨gx,ox+1,none⟩=some (.int .i64 y0.2)∧w6.drew.cell? ⟨gx,ox+m*2,none⟩=some (.int .i64 ym.1)∧w6.drew.cell? ⟨gx,ox+m*2+1,none⟩=some (.int .i64 ym.2):=⟨by rw[show((m:Int)+1)=((m+1:Nat):Int) from by omega];exact c0 0,c1 0,hx1,hx2,hx3,hx4⟩
   have hn6s:=hn6.lt;have hx6s:=hx6.lt;have HS:=yH hS;clear hL0 hh hg hs6 hy0 hym hAg hbl hlen hm hn6 hx6 hr6 hx1 hx2 hx3 hx4 hS;have HGx:=yH hgx;clear hgx;go_wp2_with fail
   have hS:=HS.out
   refine wp_region_held_drew (S:=fun w'=>w'.cell? ⟨w.heap.size+2,0,none⟩=some (.int .i64 ((m:Int)+1))∧w'.cell? ⟨w.heap.size,0,none⟩=some (.slice (some ⟨gx,ox,none⟩) (m+1) c)∧w'.cell? ⟨gx,ox,none⟩=some (.int .i64 y0.1)∧w'.cell? ⟨gx,ox+1,none⟩=some (.int .i64 y0.2)∧w'.cell? ⟨gx,ox+m*2,none⟩=some (.int .i64 ym.1)∧w'.cell? ⟨gx,ox+m*2+1,none⟩=some (.int .i64 ym.2)) (by kernel_rfl) hS (fun hHeld=>?_)
   refine Todo.out (is:=[0,1,2,3,4,5,7]) ?_
   repeat
    refine tkH (v:=?_) rfl (Or.inl ⟨by rfl,?_⟩) hHeld ?_;rotate_left
    ·(intro w hSw;(try dsimp only at hSw);go_simp)<;>with_reducible rfl
    (try simp only[Act.put,lZ])
   refine Todo.fin ?_;refine rdH (i:=6) (by kernel_rfl) rfl fun K hK=>?_;go_simp;refine HLn.out.1.mono ?_;rintro e w7 ⟨rfl,hb7,hc7⟩;have hc7':Chg F w6 w7:=Grew.then ((Chg.refl NoF w6).drew) hc7
   have hS7:w7.cell? ⟨w.heap.size+2,0,none⟩=some (.int .i64 ((m:Int)+1))∧w7.cell? ⟨w.heap.size,0,none⟩=some (.slice (some ⟨gx,ox,none⟩) (m+1) c)∧w7.cell? ⟨gx,ox,none⟩=some (.int .i64 y0.1)∧w7.cell? ⟨gx,ox+1,none⟩=some (.int .i64 y0.2)∧w7.cell? ⟨gx,ox+m*2,none⟩=some (.int .i64 ym.1)∧w7.cell? ⟨gx,ox+m*2+1,none⟩=some (.int .i64 ym.2):=⟨(hc7'.cell (p:=⟨w.heap.size+2,0,none⟩) hn6s (fun e=>by have:=hFl (w.heap.size+2) e;omega)).trans hS.1,(hc7'.cell (p:=⟨w.heap.size,0,none⟩) hx6s (fun e=>by have:=hFl w.heap.size e;omega)).trans hS.2.1,(hc7'.cell (p:=⟨gx,ox,none⟩) HGx.out HLn.out.2.1.1).trans hS.2.2.1,(hc7'.cell (p:=⟨gx,ox+1,none⟩) HGx.out HLn.out.2.1.1).trans hS.2.2.2.1,(hc7'.cell (p:=⟨gx,ox+m*2,none⟩) HGx.out HLn.out.2.1.1).trans (yP4 hS).1,(hc7'.cell (p:=⟨gx,ox+m*2+1,none⟩) HGx.out HLn.out.2.1.1).trans (yP4 hS).2⟩
   have hr7:=(yP4 H6.out).1.chg hc7' fun e=>by have:=hFl _ e;omega
   have H7:=yH (yA3 hb7 hc7' hr7);clear hb7 hc7 hc7' c2 f2 s2 c0 f0 s0 c1 f1 s1;refine hK.out _ _ hS7 (fun _=>?_);clear hK K;(try simp only[Act.put,lZ])
   refine Todo.out (is:=[8,9,10,11,12,13,14,15,16,17,18,19,20,21,22,23,24,25,26,27,28,29,30,31,32,33,34,35,36,37,38,39,40,41,42,43,44,45,46,47,48,49,50,51]) ?_
   repeat
    refine tkH (v:=?_) rfl (Or.inl ⟨by rfl,?_⟩) hS7 ?_;rotate_left
    ·(intro w hSw;(try dsimp only at hSw);go_simp)<;>with_reducible rfl
    (try simp only[Act.put,lZ])
   refine Todo.fin ?_;obtain⟨c2,f2,s2⟩:=hr7.facts;refine rdH (i:=52) (by kernel_rfl) rfl fun K hK=>?_;go_simp;obtain⟨W8,hW8⟩:∃W8,w7.setCell ⟨w.heap.size+1,0,none⟩ (.bool true)=W8:=⟨_,rfl⟩;rw[hW8];have hc78:Chg (fun j=>j=w.heap.size+1) w7 W8:=hW8▸(Chg.refl (fun j=>j=w.heap.size+1) w7).setCell (p:=⟨w.heap.size+1,0,none⟩) (fun _=>rfl) _
   have hgx7:gx< w7.heap.size:=Nat.lt_of_lt_of_le HGx.out H7.out.2.1.size;have hn7:w.heap.size+2< w7.heap.size:=Nat.lt_of_lt_of_le hn6s H7.out.2.1.size;have hne:gx≠w.heap.size+1:=by have:=HLn.out.2.1.2;omega
   have hS8:W8.cell? ⟨w.heap.size+2,0,none⟩=some (.int .i64 ((m:Int)+1))∧W8.cell? ⟨w.heap.size,0,none⟩=some (.slice (some ⟨gx,ox,none⟩) (m+1) c)∧W8.cell? ⟨gx,ox,none⟩=some (.int .i64 y0.1)∧W8.cell? ⟨gx,ox+1,none⟩=some (.int .i64 y0.2)∧W8.cell? ⟨gx,ox+m*2,none⟩=some (.int .i64 ym.1)∧W8.cell? ⟨gx,ox+m*2+1,none⟩=some (.int .i64 ym.2):=⟨(hc78.cell (p:=⟨w.heap.size+2,0,none⟩) hn7 (fun e:w.heap.size+2=w.heap.size+1=>by omega)).trans hS7.1,(hc78.cell (p:=⟨w.heap.size,0,none⟩) (show w.heap.size< w7.heap.size by omega) (fun e:w.heap.size=w.heap.size+1=>by omega)).trans hS7.2.1,(hc78.cell (p:=⟨gx,ox,none⟩) hgx7 hne).trans hS7.2.2.1,(hc78.cell (p:=⟨gx,ox+1,none⟩) hgx7 hne).trans hS7.2.2.2.1,(hc78.cell (p:=⟨gx,ox+m*2,none⟩) hgx7 hne).trans (yP4 hS7).1,(hc78.cell (p:=⟨gx,ox+m*2+1,none⟩) hgx7 hne).trans (yP4 hS7).2⟩
   have hr8:Blk W8 (w.heap.size+1) 4 #[.bool true]:=by
    have:=hr7.put 0 (.bool true);rw[hW8] at this;simpa using this
   have hb8:BT W8 t p root F x:=H7.out.1.chg hc78 (fun j hj e=>by have:=hFl j hj;omega) (fun e=>by omega) (fun e=>by omega);have hc8:Chg (fun j=>F j∨j=w.heap.size+1) w6 W8:=Chg.trans (H7.out.2.1.mono fun j _ e=> .inl e) hc78 fun j _ e=> .inr e;have H8:=yH (yA3 hr8 hb8 hc8);clear hr8 hb8 hc8 hc78 hgx7 hn7 hne hW8 c2 f2 s2;refine hK.out _ _ hS8 (fun _=>?_)
   clear hK K;(try simp only[Act.put,lZ])
   refine wpAnyH_done (by kernel_rfl) ?_ _;clear hHeld hS hS7 hS8;go_wp2_with fail
   obtain⟨hd8,hk8⟩:=HF.out W8 H8.out.2.1 H8.out.2.2;refine postM_ret1 (v:= .bool true) (D:=D2) hd8 rfl fun w9 hk9=>?_;obtain⟨c5,f5,s5⟩:=(H8.out.1.kept hk9).facts;exact⟨by simp[results,results13,go_sem,c5,s5],rfl,hk8 w9 hk9⟩
end
end Go.Proofs.YtpkkcicaeldodaaGreatDoor
