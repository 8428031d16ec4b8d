/- Texts 5 of 8 that the proof of Commits stands on. -/
import Derived.Test.YtpkkcicaeldodaaGreatDoorMgCommits4
set_option linter.unusedSimpArgs false
set_option linter.unusedVariables false
set_option maxRecDepth 100000
set_option maxHeartbeats 6400000
open Go.Proofs.Tryz
namespace Go.Proofs.YtpkkcicaeldodaaGreatDoor
section
open Go.RowKit Go.Maps
theorem iv_at1 {l:List Int} {i:Nat} {k:Int} (h:l[i]? =some k):((iv l).drop i).take 1=iv [k]:=by
 rw[←iv_drop,←iv_take];congr 1
 rw[List.take_add_one,List.getElem?_drop,Nat.add_zero,h];rfl
theorem map_eraseN (l:List Nat) (i:Nat):(l.eraseIdx i).map Int.ofNat=(l.map Int.ofNat).eraseIdx i:=by
 rw[List.eraseIdx_eq_take_drop_succ,List.eraseIdx_eq_take_drop_succ,List.map_append,List.map_take,List.map_drop]
theorem bmerge_any (t p root bn qn ba q1 bb q2 i:Nat) (k v:Int) (F N1 N2 N3:Nat→Prop) (x:Rp) (nd na nb:Nd) (cn p1 p2:Pk) (w:World) (hM:Mg w t p root F x N1 N2 N3 bb q2 nb) (ho:x.was≠none)
  (hn:NdOwn w N1 bn qn nd) (ha:NdOwn w N2 ba q1 na) (hk:nd.keys[i]? =some k) (hv:nd.vals[i]? =some v) (hc:nd.kids.length=nd.keys.length+1) (fn:nd.Fit x.sz) (fb:nb.Fit x.sz) (fo:(na.one nb k v).Fit x.sz)
  (hqn:x.now[qn]? =some cn) (un:cn.used=true) (hq1:x.now[q1]? =some p1) (u1:p1.used=true) (hq2:x.now[q2]? =some p2) (u2:p2.used=true) (e12:q1≠q2) (e1n:q1≠qn) (e2n:q2≠qn) :
  Calls prog 108 #[.pointer (some ⟨t,0,none⟩),.pointer (some ⟨bn,0,none⟩),.int .i64 i,.pointer (some ⟨ba,0,none⟩),.pointer (some ⟨bb,0,none⟩)] w fun e w'=>MgOut (fun j=>F j∨N1 j∨N2 j) w w' t p root ba qn q1 q2 F N2 x (na.one nb k v) ⟨nd.keys.eraseIdx i,nd.vals.eraseIdx i,nd.kids.eraseIdx (i+1)⟩ (qn=root∧nd.keys.length=1) e:=by
 have hil:i< nd.keys.length:=(List.getElem?_eq_some_iff.1 hk).1;have hvl:=fn.vals;have hz:=hM.bt.gp.szs;have hm3:mostN x.sz≤300:=by unfold mostN;omega
 have l1:nd.keys.length≤300:=by have:=fn.most;omega
 have l2:na.keys.length+nb.keys.length+1≤300:=by have:=fo.most;simp only[Nd.one,List.length_append,List.length_cons] at this;omega
 have hvab:na.vals.length+nb.vals.length=na.keys.length+nb.keys.length:=by have:=fo.vals;simp only[Nd.one,List.length_append,List.length_cons] at this;omega
 obtain⟨vka,vva,vca,hA⟩:=ha.v;obtain⟨vkn,vvn,vcn,hN⟩:=hn.v;have rka:=hA.rk;rw[iv_len] at rka;have rva:=hA.rv;rw[iv_len] at rva;have rca:=hA.rc;rw[nv_len] at rca;have rkn:=hN.rk;rw[iv_len] at rkn;have rvn:=hN.rv;rw[iv_len] at rvn;have rcn:=hN.rc;rw[nv_len] at rcn;obtain⟨Aka,cka,rfl, -⟩:=own_shape rka;obtain⟨Ava,cva,rfl, -⟩:=own_shape rva
 obtain⟨Aca,cca,rfl, -⟩:=own_shape rca;obtain⟨Akn,ckn,rfl,gckn⟩:=own_shape rkn;obtain⟨Avn,cvn,rfl,gcvn⟩:=own_shape rvn;obtain⟨Acn,ccn,rfl,gccn⟩:=own_shape rcn;obtain⟨gkn,rfl, -⟩:=own_block rkn (by omega);obtain⟨gvn,rfl, -⟩:=own_block rvn (by omega);obtain⟨gcn,rfl, -⟩:=own_block rcn (by omega);obtain⟨Akb,ckb,Avb,cvb,Acb,ccb,hB⟩:=hM.nb.rd
 have HS0:=yH (MgS.start hM hA hN);have HB:=yH hB;have H:=yH (yA5 hM ho hk hv (yA5 hc fn fb fo (yA5 hqn un hq1 u1 (yA5 hq2 u2 e12 e1n e2n))));have hii:IntKind.i64.wrap ((i:Int)+1)=((i+1:Nat):Int):=by rw[IntWalk.i64_in _ ⟨by omega,by omega⟩];omega
 have g0:(0:Int)≤(i:Int)+1:=by omega
 have g1:(i:Int)+1≤(ckn:Int):=by omega
 have g2:¬ckn=i:=by omega
 have g3:(i:Int)+1≤(cvn:Int):=by omega
 have g4:¬cvn=i:=by omega
 have hvi:i< nd.vals.length:=by omega
 have l4:nd.vals.length≤300:=by omega
 have l5:na.vals.length+nb.vals.length+1≤300:=by omega
 have HVL:=yH (yA3 hvl hvab hc);have e3:na.kids.length+nb.kids.length≤400:=by rcases fo.kids with e | e<;>simp only[Nd.one,List.length_append,List.length_cons] at e<;>(try have e':=congrArg List.length e;simp only[List.length_append,List.length_nil] at e')<;>omega
 clear hM ho hn ha hk hv hc fn fb fo hqn un hq1 u1 hq2 u2 e12 e1n e2n hz hm3 hA hN hvl hvab rka rva rca rkn rvn rcn hB;go_enter func108,ntmps108
 have hB01:=HB.out.chg HS0.out.ch (fun j hj e=>e.elim (fun e=>H.out.1.d13 j e hj) fun e=>H.out.1.d23 j e hj)
 have hS1:(fun w':World=>w'.cell? ⟨ba,1,none⟩=some (.slice Aka na.keys.length cka)∧w'.cell? ⟨bn,1,none⟩=some (.slice (some ⟨gkn,0,none⟩) nd.keys.length ckn)∧w'.cell? ⟨bb,1,none⟩=some (.slice Akb nb.keys.length ckb)) w.drew:=⟨(HS0.out.a.blk.drew).cell 1,(HS0.out.n.blk.drew).cell 1,(hB01.1.drew).cell 1⟩;have HB01:=yH hB01;clear hB01;go_wp2_with fail
 refine wp_region_x [21] (S:=fun w'=>w'.cell? ⟨ba,1,none⟩=some (.slice Aka na.keys.length cka)∧w'.cell? ⟨bn,1,none⟩=some (.slice (some ⟨gkn,0,none⟩) nd.keys.length ckn)∧w'.cell? ⟨bb,1,none⟩=some (.slice Akb nb.keys.length ckb)) (by kernel_rfl) hS1 (fun hHeld=>?_);refine Todo.out (is:=[0,1,2,3,4,5,6,7,8,9,10,11,12,13,14,15,16]) ?_
 repeat
  refine tkX (v:=?_) rfl (Or.inl ⟨by rfl,?_⟩) hHeld ?_;rotate_left
  ·(intro w hSw;(try dsimp only at hSw);go_simp)<;>with_reducible rfl
  (try simp only[Act.put,lZ])
 refine Todo.fin ?_;refine rdX (i:=17) (by kernel_rfl) rfl fun K hK=>?_;go_simp;obtain⟨W1,hW1⟩:∃W,(w.alloc (.cells #[.slice Aka na.keys.length cka,.slice (some ⟨gkn,i,none⟩) 1 (ckn - i),.slice Akb nb.keys.length ckb] 22)).drew=W:=⟨_,rfl⟩;rw[hW1];have hg1:Grew w W1:=hW1▸((Chg.refl NoF w).alloc _).drew
 have hl1:Blk W1 w.heap.size 22 #[.slice Aka na.keys.length cka,.slice (some ⟨gkn,i,none⟩) 1 (ckn - i),.slice Akb nb.keys.length ckb]:=hW1▸(Blk.new w _ _).drew;have hB1:=HB01.out.chg hg1 fun _ _=>id;have hN1:=HS0.out.n.chg hg1 fun _ _=>id;have hA1:=HS0.out.a.chg hg1 fun _ _=>id;have ra1:=hA1.rk;rw[iv_len] at ra1;have rn1:=hN1.rk;rw[iv_len] at rn1
 have hc1:=(Sl.of_own rn1).cut i 1 (by omega);rw[Nat.zero_add,iv_at1 H.out.2.2.1] at hc1;have hcat1:=cat3 hl1 (Sl.of_own ra1) hc1 hB1.2.1 (iv_one _) (iv_one _) (iv_one _) (by omega) rfl
 have hSb1:(fun w':World=>w'.cell? ⟨ba,1,none⟩=some (.slice Aka na.keys.length cka)∧w'.cell? ⟨bn,1,none⟩=some (.slice (some ⟨gkn,0,none⟩) nd.keys.length ckn)∧w'.cell? ⟨bb,1,none⟩=some (.slice Akb nb.keys.length ckb)) W1:=⟨(hA1.blk).cell 1,(hN1.blk).cell 1,(hB1.1).cell 1⟩;have hp1:1≤W1.heap.size:=by have:=tab_pos HS0.out.mg.bt.gp.tab;have:=hg1.size;omega
 have H1:=yH (yA5 hcat1 hg1 hA1 hN1 (yA hB1 hp1));clear hcat1 hg1 hA1 hN1 hB1 hp1 hl1 hW1 ra1 rn1 hc1;refine hK.out _ _ (fun _=>hSb1) ?_;clear hK K;(try simp only[Act.put,lZ])
 refine rdX (i:=18) (by kernel_rfl) rfl fun K hK=>?_;go_simp;refine H1.out.1.mono ?_;rintro e w1b ⟨A1,c1,rfl,ho1,hg1b⟩;have hb1:=H1.out.2.2.1.blk.grew hg1b
 have hSc1:(fun w':World=>w'.cell? ⟨ba,1,none⟩=some (.slice Aka na.keys.length cka)∧w'.cell? ⟨bn,1,none⟩=some (.slice (some ⟨gkn,0,none⟩) nd.keys.length ckn)∧w'.cell? ⟨bb,1,none⟩=some (.slice Akb nb.keys.length ckb)) w1b:=⟨(hb1).cell 1,(H1.out.2.2.2.1.blk.grew hg1b).cell 1,((yP4 H1.out).1.1.grew hg1b).cell 1⟩;obtain⟨d9,f9,s9⟩:=hb1.facts
 have H1b:=yH (yA ho1 hg1b);clear ho1 hg1b hb1;refine hK.out _ _ (fun _=>hSc1) ?_;clear hK K;(try simp only[Act.put,lZ])
 refine tkM1 [20] (i:=19) (v:=?_) rfl (Or.inl ⟨by rfl,?_⟩) hSc1 ?_;rotate_left
 ·(intro w hSw;(try dsimp only at hSw);go_simp)<;>with_reducible rfl
 (try simp only[Act.put,lZ])
 refine tkX1 (i:=20) (v:=?_) rfl (Or.inl ⟨by rfl,?_⟩) hSc1 ?_;rotate_left
 ·(intro w hSw;(try dsimp only at hSw);go_simp)<;>with_reducible rfl
 (try simp only[Act.put,lZ])
 refine rdX (i:=21) (by kernel_rfl) rfl fun K hK=>?_;go_simp;obtain⟨W1c,hW1c⟩:∃W,w1b.setCell ⟨ba,1,none⟩ (.slice A1 (na.keys.length+(1+nb.keys.length)) c1)=W:=⟨_,rfl⟩;rw[hW1c]
 have hs1:=HS0.out.aK H1.out.2.1 H1b.out.2 (l':=iv na.keys++(iv [k]++iv nb.keys)) (by rw[show(iv na.keys++(iv [k]++iv nb.keys)).length=na.keys.length+(1+nb.keys.length) from by simp[iv];omega];exact H1b.out.1) hW1c (yP4 H1.out).2;refine hK.out _ _ (fun h=>by cases h) ?_;clear hK K;(try simp only[Act.put,lZ])
 refine wpAnyX_done (by kernel_rfl) ?_ _;have HS1:=yH hs1;clear hHeld hS1 hSb1 hSc1 d9 f9 s9 hW1c hs1 HB01;have hB02:=HB.out.chg HS1.out.ch (fun j hj e=>e.elim (fun e=>H.out.1.d13 j e hj) fun e=>H.out.1.d23 j e hj)
 have hS2:(fun w':World=>w'.cell? ⟨ba,2,none⟩=some (.slice Ava na.vals.length cva)∧w'.cell? ⟨bn,2,none⟩=some (.slice (some ⟨gvn,0,none⟩) nd.vals.length cvn)∧w'.cell? ⟨bb,2,none⟩=some (.slice Avb nb.vals.length cvb)) W1c.drew:=⟨(HS1.out.a.blk.drew).cell 2,(HS1.out.n.blk.drew).cell 2,(hB02.1.drew).cell 2⟩;have HB02:=yH hB02;clear hB02;go_wp2_with fail
 refine wp_region_x [21] (S:=fun w'=>w'.cell? ⟨ba,2,none⟩=some (.slice Ava na.vals.length cva)∧w'.cell? ⟨bn,2,none⟩=some (.slice (some ⟨gvn,0,none⟩) nd.vals.length cvn)∧w'.cell? ⟨bb,2,none⟩=some (.slice Avb nb.vals.length cvb)) (by kernel_rfl) hS2 (fun hHeld=>?_);refine Todo.out (is:=[0,1,2,3,4,5,6,7,8,9,10,11,12,13,14,15,16]) ?_
 repeat
  refine tkX (v:=?_) rfl (Or.inl ⟨by rfl,?_⟩) hHeld ?_;rotate_left
  ·(intro w hSw;(try dsimp only at hSw);go_simp)<;>with_reducible rfl
  (try simp only[Act.put,lZ])
 refine Todo.fin ?_;refine rdX (i:=17) (by kernel_rfl) rfl fun K hK=>?_;go_simp;obtain⟨W2,hW2⟩:∃W,(W1c.alloc (.cells #[.slice Ava na.vals.length cva,.slice (some ⟨gvn,i,none⟩) 1 (cvn - i),.slice Avb nb.vals.length cvb] 22)).drew=W:=⟨_,rfl⟩;rw[hW2];have hg2:Grew W1c W2:=hW2▸((Chg.refl NoF W1c).alloc _).drew
 have hl2:Blk W2 W1c.heap.size 22 #[.slice Ava na.vals.length cva,.slice (some ⟨gvn,i,none⟩) 1 (cvn - i),.slice Avb nb.vals.length cvb]:=hW2▸(Blk.new W1c _ _).drew;have hB2:=HB02.out.chg hg2 fun _ _=>id;have hN2:=HS1.out.n.chg hg2 fun _ _=>id;have hA2:=HS1.out.a.chg hg2 fun _ _=>id;have ra2:=hA2.rv;rw[iv_len] at ra2;have rn2:=hN2.rv;rw[iv_len] at rn2
 have hc2:=(Sl.of_own rn2).cut i 1 (by omega);rw[Nat.zero_add,iv_at1 H.out.2.2.2.1] at hc2;have hcat2:=cat3 hl2 (Sl.of_own ra2) hc2 hB2.2.2.1 (iv_one _) (iv_one _) (iv_one _) (by omega) rfl
 have hSb2:(fun w':World=>w'.cell? ⟨ba,2,none⟩=some (.slice Ava na.vals.length cva)∧w'.cell? ⟨bn,2,none⟩=some (.slice (some ⟨gvn,0,none⟩) nd.vals.length cvn)∧w'.cell? ⟨bb,2,none⟩=some (.slice Avb nb.vals.length cvb)) W2:=⟨(hA2.blk).cell 2,(hN2.blk).cell 2,(hB2.1).cell 2⟩;have hp2:1≤W2.heap.size:=by have:=tab_pos HS1.out.mg.bt.gp.tab;have:=hg2.size;omega
 have H2:=yH (yA5 hcat2 hg2 hA2 hN2 (yA hB2 hp2));clear hcat2 hg2 hA2 hN2 hB2 hp2 hl2 hW2 ra2 rn2 hc2;refine hK.out _ _ (fun _=>hSb2) ?_;clear hK K;(try simp only[Act.put,lZ])
 refine rdX (i:=18) (by kernel_rfl) rfl fun K hK=>?_;go_simp;refine H2.out.1.mono ?_;rintro e w2b ⟨A2,c2,rfl,ho2,hg2b⟩;have hb2:=H2.out.2.2.1.blk.grew hg2b
 have hSc2:(fun w':World=>w'.cell? ⟨ba,2,none⟩=some (.slice Ava na.vals.length cva)∧w'.cell? ⟨bn,2,none⟩=some (.slice (some ⟨gvn,0,none⟩) nd.vals.length cvn)∧w'.cell? ⟨bb,2,none⟩=some (.slice Avb nb.vals.length cvb)) w2b:=⟨(hb2).cell 2,(H2.out.2.2.2.1.blk.grew hg2b).cell 2,((yP4 H2.out).1.1.grew hg2b).cell 2⟩;obtain⟨d9,f9,s9⟩:=hb2.facts
 have H2b:=yH (yA ho2 hg2b);clear ho2 hg2b hb2;refine hK.out _ _ (fun _=>hSc2) ?_;clear hK K;(try simp only[Act.put,lZ])
 refine tkM1 [20] (i:=19) (v:=?_) rfl (Or.inl ⟨by rfl,?_⟩) hSc2 ?_;rotate_left
 ·(intro w hSw;(try dsimp only at hSw);go_simp)<;>with_reducible rfl
 (try simp only[Act.put,lZ])
 refine tkX1 (i:=20) (v:=?_) rfl (Or.inl ⟨by rfl,?_⟩) hSc2 ?_;rotate_left
 ·(intro w hSw;(try dsimp only at hSw);go_simp)<;>with_reducible rfl
 (try simp only[Act.put,lZ])
 refine rdX (i:=21) (by kernel_rfl) rfl fun K hK=>?_;go_simp;obtain⟨W2c,hW2c⟩:∃W,w2b.setCell ⟨ba,2,none⟩ (.slice A2 (na.vals.length+(1+nb.vals.length)) c2)=W:=⟨_,rfl⟩;rw[hW2c]
 have hs2:=HS1.out.aV H2.out.2.1 H2b.out.2 (l':=iv na.vals++(iv [v]++iv nb.vals)) (by rw[show(iv na.vals++(iv [v]++iv nb.vals)).length=na.vals.length+(1+nb.vals.length) from by simp[iv];omega];exact H2b.out.1) hW2c (yP4 H2.out).2;refine hK.out _ _ (fun h=>by cases h) ?_;clear hK K;(try simp only[Act.put,lZ])
 refine wpAnyX_done (by kernel_rfl) ?_ _;have HS2:=yH hs2;clear hHeld hS2 hSb2 hSc2 d9 f9 s9 hW2c hs2 HB02;have hB03:=HB.out.chg HS2.out.ch (fun j hj e=>e.elim (fun e=>H.out.1.d13 j e hj) fun e=>H.out.1.d23 j e hj)
 have hS3:(fun w':World=>w'.cell? ⟨ba,3,none⟩=some (.slice Aca na.kids.length cca)∧w'.cell? ⟨bb,3,none⟩=some (.slice Acb nb.kids.length ccb)) W2c.drew:=⟨(HS2.out.a.blk.drew).cell 3,(hB03.1.drew).cell 3⟩;have HB03:=yH hB03;clear hB03;go_wp2_with fail
 refine wp_region_x [13] (S:=fun w'=>w'.cell? ⟨ba,3,none⟩=some (.slice Aca na.kids.length cca)∧w'.cell? ⟨bb,3,none⟩=some (.slice Acb nb.kids.length ccb)) (by kernel_rfl) hS3 (fun hHeld=>?_);refine Todo.out (is:=[0,1,2,3,4,5,6,7,8]) ?_
 repeat
  refine tkX (v:=?_) rfl (Or.inl ⟨by rfl,?_⟩) hHeld ?_;rotate_left
  ·(intro w hSw;(try dsimp only at hSw);go_simp)<;>with_reducible rfl
  (try simp only[Act.put,lZ])
 refine Todo.fin ?_;refine rdX (i:=9) (by kernel_rfl) rfl fun K hK=>?_;go_simp;obtain⟨W3,hW3⟩:∃W,(W2c.alloc (.cells #[.slice Aca na.kids.length cca,.slice Acb nb.kids.length ccb] 22)).drew=W:=⟨_,rfl⟩;rw[hW3];have hg3:Grew W2c W3:=hW3▸((Chg.refl NoF W2c).alloc _).drew
 have hl3:Blk W3 W2c.heap.size 22 #[.slice Aca na.kids.length cca,.slice Acb nb.kids.length ccb]:=hW3▸(Blk.new W2c _ _).drew;have hB3:=HB03.out.chg hg3 fun _ _=>id;have hN3:=HS2.out.n.chg hg3 fun _ _=>id;have hA3:=HS2.out.a.chg hg3 fun _ _=>id;have ra3:=hA3.rc;rw[nv_len] at ra3;have hcat3:=cat2 hl3 (Sl.of_own ra3) hB3.2.2.2.1 (nv_one _) (nv_one _) (by omega) rfl
 have hSb3:(fun w':World=>w'.cell? ⟨ba,3,none⟩=some (.slice Aca na.kids.length cca)∧w'.cell? ⟨bb,3,none⟩=some (.slice Acb nb.kids.length ccb)) W3:=⟨(hA3.blk).cell 3,(hB3.1).cell 3⟩;have hp3:1≤W3.heap.size:=by have:=tab_pos HS2.out.mg.bt.gp.tab;have:=hg3.size;omega
 have H3:=yH (yA5 hcat3 hg3 hA3 hN3 (yA hB3 hp3));clear hcat3 hg3 hA3 hN3 hB3 hp3 hl3 hW3 ra3;refine hK.out _ _ (fun _=>hSb3) ?_;clear hK K;(try simp only[Act.put,lZ])
 refine rdX (i:=10) (by kernel_rfl) rfl fun K hK=>?_;go_simp;refine H3.out.1.mono ?_;rintro e w3b ⟨A3,c3,rfl,ho3,hg3b⟩;have hb3:=H3.out.2.2.1.blk.grew hg3b;have hSc3:(fun w':World=>w'.cell? ⟨ba,3,none⟩=some (.slice Aca na.kids.length cca)∧w'.cell? ⟨bb,3,none⟩=some (.slice Acb nb.kids.length ccb)) w3b:=⟨(hb3).cell 3,((yP4 H3.out).1.1.grew hg3b).cell 3⟩
 obtain⟨d9,f9,s9⟩:=hb3.facts;have H3b:=yH (yA ho3 hg3b);clear ho3 hg3b hb3;refine hK.out _ _ (fun _=>hSc3) ?_;clear hK K;(try simp only[Act.put,lZ])
 refine tkM1 [12] (i:=11) (v:=?_) rfl (Or.inl ⟨by rfl,?_⟩) hSc3 ?_;rotate_left
 ·(intro w hSw;(try dsimp only at hSw);go_simp)<;>with_reducible rfl
 (try simp only[Act.put,lZ])
 refine tkX1 (i:=12) (v:=?_) rfl (Or.inl ⟨by rfl,?_⟩) hSc3 ?_;rotate_left
 ·(intro w hSw;(try dsimp only at hSw);go_simp)<;>with_reducible rfl
 (try simp only[Act.put,lZ])
 refine rdX (i:=13) (by kernel_rfl) rfl fun K hK=>?_;go_simp;obtain⟨W3c,hW3c⟩:∃W,w3b.setCell ⟨ba,3,none⟩ (.slice A3 (na.kids.length+nb.kids.length) c3)=W:=⟨_,rfl⟩;rw[hW3c]
 have hs3:=HS2.out.aC H3.out.2.1 H3b.out.2 (l':=nv na.kids++nv nb.kids) (by rw[show(nv na.kids++nv nb.kids).length=na.kids.length+nb.kids.length from by simp[nv]];exact H3b.out.1) hW3c (yP4 H3.out).2;refine hK.out _ _ (fun h=>by cases h) ?_;clear hK K;(try simp only[Act.put,lZ])
 refine wpAnyX_done (by kernel_rfl) ?_ _;have HS3:=yH hs3;clear hHeld hS3 hSb3 hSc3 d9 f9 s9 hW3c hs3 HB03;have hS4:(fun w':World=>w'.cell? ⟨bn,1,none⟩=some (.slice (some ⟨gkn,0,none⟩) nd.keys.length ckn)∧w'.cell? ⟨bn,2,none⟩=some (.slice (some ⟨gvn,0,none⟩) nd.vals.length cvn)) W3c.drew:=⟨HS3.out.n.blk.drew.cell 1,HS3.out.n.blk.drew.cell 2⟩
 have hi4:(i:Int)+1=((i+1:Nat):Int):=by omega
 have hN4:=HS3.out.n.chg ((Chg.refl NoF W3c).drew) fun _ _=>id;have rk4:=hN4.rk;rw[iv_len] at rk4;have hd4:=bdelete_any 1 _ nd.keys i W3c.drew rk4 (by omega);rw[←hi4] at hd4;have H4:=yH (yA hd4 hN4);clear hd4 hN4 rk4 hi4;go_wp2_with fail
 refine wp_region_x [1,10,11,12,14,15,16,20,21,22,23] (S:=fun w'=>w'.cell? ⟨bn,1,none⟩=some (.slice (some ⟨gkn,0,none⟩) nd.keys.length ckn)∧w'.cell? ⟨bn,2,none⟩=some (.slice (some ⟨gvn,0,none⟩) nd.vals.length cvn)) (by kernel_rfl) hS4 (fun hHeld=>?_);refine Todo.out (is:=[1,10,11,12,14,15,16]) ?_
 repeat
  refine tkP (v:=?_) rfl (Or.inl ⟨by rfl,?_⟩) ?_;rotate_left
  ·(intro w hSw;go_simp)<;>with_reducible rfl
  (try simp only[Act.put,lZ])
 refine Todo.fin ?_;refine wpAnyX_mono (X':=[20,21,22,23]) (fun i hi=>by simp at hi ⊢;omega) _ _ _ _ ?_;refine Todo.out (is:=[0,2,3,4,5,6,7,8,13]) ?_
 repeat
  refine tkX (v:=?_) rfl (Or.inl ⟨by rfl,?_⟩) hHeld ?_;rotate_left
  ·(intro w hSw;(try dsimp only at hSw);go_simp)<;>with_reducible rfl
  (try simp only[Act.put,lZ])
 refine Todo.fin ?_;refine rdX (i:=9) (by kernel_rfl) rfl fun K hK=>?_;go_simp;refine H4.out.1.mono ?_;rintro e w5 ⟨A5,c5,rfl,ho5,ha5⟩;have hne5:=H4.out.2.ne;have hb5:=H4.out.2.blk.chg ha5.chg hne5.1;have lk5:(nd.keys.eraseIdx i).length=nd.keys.length - 1:=List.length_eraseIdx_of_lt (by omega)
 have lv5:(nd.vals.eraseIdx i).length=nd.vals.length - 1:=List.length_eraseIdx_of_lt (by omega);have hr5:=H4.out.2.rws.setK ha5 (l':=iv (nd.keys.eraseIdx i)) (by rw[iv_len,lk5];exact ho5);have rv5:=hr5.rv;rw[iv_len] at rv5;have hd5:=bdelete_any 1 _ nd.vals i w5 rv5 (by omega);rw[show((i+1:Nat):Int)=(i:Int)+1 from by omega] at hd5
 have hS5:(fun w':World=>w'.cell? ⟨bn,1,none⟩=some (.slice (some ⟨gkn,0,none⟩) nd.keys.length ckn)∧w'.cell? ⟨bn,2,none⟩=some (.slice (some ⟨gvn,0,none⟩) nd.vals.length cvn)) w5:=⟨hb5.cell 1,hb5.cell 2⟩;have H5:=yH (yA5 hd5 hr5 hb5 ha5 (yA3 hne5 lk5 lv5));clear hd5 hr5 hb5 ha5 hne5 lk5 lv5 rv5 ho5;refine hK.out _ _ (fun _=>hS5) ?_;clear hK K;(try simp only[Act.put,lZ])
 refine rdX (i:=17) (by kernel_rfl) rfl fun K hK=>?_;go_simp;refine H5.out.1.mono ?_;rintro e w6 ⟨A6,c6,rfl,ho6,ha6⟩;have hb6:=H5.out.2.2.1.chg ha6.chg (yP4 H5.out).1.2.1;have hr6:=H5.out.2.1.setV ha6 (l':=iv (nd.vals.eraseIdx i)) (by rw[iv_len,(yP6 H5.out)];exact ho6)
 have hS6:(fun w':World=>w'.cell? ⟨bn,1,none⟩=some (.slice (some ⟨gkn,0,none⟩) nd.keys.length ckn)∧w'.cell? ⟨bn,2,none⟩=some (.slice (some ⟨gvn,0,none⟩) nd.vals.length cvn)) w6:=⟨hb6.cell 1,hb6.cell 2⟩;obtain⟨d9,f9,s9⟩:=hb6.facts;have H6:=yH (yA3 hr6 hb6 ha6);clear hr6 hb6 ha6 ho6;refine hK.out _ _ (fun _=>hS6) ?_;clear hK K;(try simp only[Act.put,lZ])
 refine rdX (i:=18) (by kernel_rfl) rfl fun K hK=>?_;go_simp;refine hK.out _ _ (fun _=>hS6) ?_;clear hK K;(try simp only[Act.put,lZ])
 refine rdX (i:=19) (by kernel_rfl) rfl fun K hK=>?_;go_simp;refine hK.out _ _ (fun _=>hS6) ?_;clear hK K;(try simp only[Act.put,lZ])
 refine rdX (i:=20) (by kernel_rfl) rfl fun K hK=>?_;go_simp;obtain⟨W7,hW7⟩:∃W,w6.setCell ⟨bn,1,none⟩ (.slice A5 (nd.keys.length - 1) c5)=W:=⟨_,rfl⟩;rw[hW7];have hb7:=H6.out.2.1.put 1 (.slice A5 (nd.keys.length - 1) c5);rw[hW7] at hb7;have hc7:Chg (fun j=>j=bn) w6 W7:=hW7▸(Chg.refl (fun j=>j=bn) w6).setCell (p:=⟨bn,1,none⟩) (fun _=>rfl) _
 clear d9 f9 s9 hW7;obtain⟨d9,f9,s9⟩:=hb7.facts;refine hK.out _ _ (fun h=>by cases h) ?_;clear hK K;(try simp only[Act.put,lZ])
 refine rdX (i:=21) (by kernel_rfl) rfl fun K hK=>?_;go_simp;refine hK.out _ _ (fun h=>by cases h) ?_;clear hK K;(try simp only[Act.put,lZ])
 refine rdX (i:=22) (by kernel_rfl) rfl fun K hK=>?_;go_simp;refine hK.out _ _ (fun h=>by cases h) ?_;clear hK K;(try simp only[Act.put,lZ])
 refine rdX (i:=23) (by kernel_rfl) rfl fun K hK=>?_;go_simp;obtain⟨W8,hW8⟩:∃W,W7.setCell ⟨bn,2,none⟩ (.slice A6 (nd.vals.length - 1) c6)=W:=⟨_,rfl⟩;rw[hW8];have hb8:=hb7.put 2 (.slice A6 (nd.vals.length - 1) c6);rw[hW8] at hb8
 have hc8:Chg (fun j=>j=bn) w6 W8:=Chg.trans hc7 (hW8▸(Chg.refl (fun j=>j=bn) W7).setCell (p:=⟨bn,2,none⟩) (fun _=>rfl) _) fun _ _ e=>e;refine hK.out _ _ (fun h=>by cases h) ?_;clear hK K;(try simp only[Act.put,lZ])
 refine wpAnyX_done (by kernel_rfl) ?_ _;have hb8':Blk W8 bn 73 #[.int .i64 qn,.slice A5 (nd.keys.length - 1) c5,.slice A6 (nd.vals.length - 1) c6,.slice (some ⟨gcn,0,none⟩) nd.kids.length ccn]:=by simpa using hb8
 have hr8:=H6.out.1;have hbn6:=H6.out.2.1;have hn8:=(hr8.chg hc8 (fun g hg e=>own_blk_ne hr8.rk hbn6 (by decide) (by rw[hg,e])) (fun g hg e=>own_blk_ne hr8.rv hbn6 (by decide) (by rw[hg,e])) (fun g hg e=>own_blk_ne hr8.rc hbn6 (by decide) (by rw[hg,e]))).ndv hb8' (.inl (.inl HS3.out.n.nb));have z45:W3c.heap.size≤w5.heap.size:=H5.out.2.2.2.1.chg.size
 have hc38:Chg N1 W3c W8:=Chg.trans (Chg.trans (Chg.trans ((Chg.refl N1 W3c).drew) H5.out.2.2.2.1.chg fun j _ e=>H4.out.2.nk j e) H6.out.2.2.chg fun j _ e=>H4.out.2.nv j e) hc8 fun j _ e=>by subst e;exact HS3.out.n.nb
 have hs8:=HS3.out.nset hc38 hn8 (fun j hj=>by
  rcases hj with (e | e) | e
  ·exact .inl e
  ·exact(H5.out.2.2.2.1.at_ j e).imp (H4.out.2.nk j) id
  ·exact(H6.out.2.2.at_ j e).imp (H4.out.2.nv j) fun e=>by omega)
 obtain⟨N8,hN8⟩:∃N:Nat→Prop,(fun j=>(N1 j∨(Value.slice A5 (nd.keys.length - 1) c5).ownBlock=some j)∨(Value.slice A6 (nd.vals.length - 1) c6).ownBlock=some j)=N:=⟨_,rfl⟩;rw[hN8] at hs8;have HS8:=yH hs8;clear hHeld hS4 hS5 hS6 d9 f9 s9 hb7 hc7 hb8 hc8 hW8 hb8' hr8 hbn6 hn8 z45 hc38 hs8 hN8 H4 H5 H6;have hlc9:(nd.kids.map Int.ofNat).length=nd.kids.length:=by simp
 have rc9:=HS8.out.n.rc;rw[nv_len] at rc9;rw[nv_ivm] at rc9;have hd9:=bdelete_any 1 _ (nd.kids.map Int.ofNat) (i+1) W8 (by rw[hlc9];exact rc9) (by have:=HVL.out.2.2;omega);rw[show((i+1:Nat):Int)=(i:Int)+1 from by omega,show((i+1+1:Nat):Int)=(i:Int)+2 from by omega] at hd9
 have lc9:(nd.kids.eraseIdx (i+1)).length=nd.kids.length - 1:=List.length_eraseIdx_of_lt (by have:=HVL.out.2.2;omega);have H9:=yH (yA3 hd9 hlc9 lc9);have hi2:IntKind.i64.wrap ((i:Int)+2)=(i:Int)+2:=by rw[IntWalk.i64_in _ ⟨by omega,by omega⟩]
 obtain⟨d9,f9,s9⟩:=HS8.out.n.blk.facts;clear hd9 hlc9 rc9 lc9;go_wp2_with fail
 refine H9.out.1.mono ?_;rintro e w9 ⟨A9,c9,rfl,ho9,ha9⟩;rw[H9.out.2.1] at ho9 ha9;have hb9:=HS8.out.n.blk.chg ha9.chg HS8.out.n.ne.2.2;clear d9 f9 s9;obtain⟨d9,f9,s9⟩:=hb9.facts;obtain⟨W10,hW10⟩:∃W,w9.setCell ⟨bn,3,none⟩ (.slice A9 (nd.kids.length - 1) c9)=W:=⟨_,rfl⟩
 have hn10:=NdV.setC (W2:=W10) (l':=nv (nd.kids.eraseIdx (i+1))) HS8.out.n ha9 (by rw[nv_len,H9.out.2.2,nv_ivm,map_eraseN];exact ho9) hW10;have hc10:Chg N8 W8 W10:=Chg.trans (ha9.chg.mono fun j _ e=>HS8.out.n.nc j e) (hW10▸(Chg.refl (fun j=>j=bn) w9).setCell (p:=⟨bn,3,none⟩) (fun _=>rfl) _) fun j _ e=>by subst e;exact HS8.out.n.nb
 have hs10:=HS8.out.nset hc10 hn10 (fun j hj=>by
  rcases hj with e | e
  ·exact .inl e
  ·exact(ha9.at_ j e).imp (HS8.out.n.nc j) id)
 obtain⟨N10,hN10⟩:∃N:Nat→Prop,(fun j=>N8 j∨(Value.slice A9 (nd.kids.length - 1) c9).ownBlock=some j)=N:=⟨_,rfl⟩;rw[hN10] at hs10;have HS10:=yH hs10;have H10:=yH hW10;have HC9:=yH H9.out.2.1;clear hb9 hW10 hn10 hc10 hs10 hN10 ho9 ha9 HS8 H9;rw[HC9.out];have hbb10:=HB.out.chg HS10.out.ch (fun j hj e=>e.elim (fun e=>H.out.1.d13 j e hj) fun e=>H.out.1.d23 j e hj)
 have hS10:(fun w':World=>w'.cell? ⟨t,0,none⟩=some (.pointer (some ⟨p,0,none⟩))∧w'.cell? ⟨bb,0,none⟩=some (.int .i64 q2)) W10.drew:=⟨HS10.out.mg.bt.blk.drew.cell 0,hbb10.1.drew.cell 0⟩;have hbt10:=HS10.out.mg.bt.grew ((Chg.refl NoF W10).drew);have hfr:=gp_free_any p F x W10.drew q2 p2 hbt10.gp H.out.2.1 (yP12 H.out).1 (yP12 H.out).2.1
 have H11:=yH (yA3 hfr hbt10 hbb10.1);clear hfr hbt10 hbb10;go_wp2_with fail
 rw[H10.out];clear d9 f9 s9;refine wp_region_held_drew (S:=fun w'=>w'.cell? ⟨t,0,none⟩=some (.pointer (some ⟨p,0,none⟩))∧w'.cell? ⟨bb,0,none⟩=some (.int .i64 q2)) (by kernel_rfl) hS10 (fun hHeld=>?_);refine Todo.out (is:=[0,1,2,3,4,5,6,7]) ?_
 repeat
  refine tkH (v:=?_) rfl (Or.inl ⟨by rfl,?_⟩) hHeld ?_;rotate_left
  ·(intro w hSw;(try dsimp only at hSw);go_simp)<;>with_reducible rfl
  (try simp only[Act.put,lZ])
 refine Todo.fin ?_;refine rdH (i:=8) (by kernel_rfl) rfl fun K hK=>?_;go_simp;refine H11.out.1.mono ?_;rintro e w11 (⟨rfl,hto⟩ | ⟨hns,rfl,hg11⟩);rotate_left
 ·have hS11:(fun w':World=>w'.cell? ⟨t,0,none⟩=some (.pointer (some ⟨p,0,none⟩))∧w'.cell? ⟨bb,0,none⟩=some (.int .i64 q2)) w11:=⟨(H11.out.2.1.blk.grew hg11).cell 0,(H11.out.2.2.drew.grew hg11).cell 0⟩
  have hout:FullG (fun j=>F j∨N1 j∨N2 j) w w11 t p root F x 0:=⟨x,F,H11.out.2.1.grew hg11,((HS10.out.ch.mono fun j _ e=> .inr e).drew).grew hg11,fun j e=> .inl e,Rp.like.refl x,by omega,fun e=>by have:=e.1;omega⟩;have HO:=yH hout;clear hout hg11 hns;refine hK.out _ _ hS11 (fun _=>?_);clear hK K;(try simp only[Act.put,lZ])
  refine rdH (i:=9) (by kernel_rfl) rfl fun K hK=>?_;go_simp;refine hK.out _ _ hS11 (fun _=>?_);clear hK K;(try simp only[Act.put,lZ])
  refine wpAnyH_done (by kernel_rfl) ?_ _;clear hHeld hS10 hS11;go_wp2_with fail
  go_ret
  exact .inr ⟨rfl,HO.out⟩
 obtain⟨F1,hb11,hc11,hF11⟩:=H11.out.2.1.to hto;have hS11:(fun w':World=>w'.cell? ⟨t,0,none⟩=some (.pointer (some ⟨p,0,none⟩))∧w'.cell? ⟨bb,0,none⟩=some (.int .i64 q2)) w11:=⟨hb11.blk.cell 0,(H11.out.2.2.drew.chg hc11 fun e=>HS10.out.mg.d3F bb (yP4 HB.out).1 e).cell 0⟩;have hc11':Chg F W10 w11:=Chg.trans ((Chg.refl F W10).drew) hc11 fun _ _ e=>e
 have hn11:=HS10.out.n.chg hc11' fun j hj=>(HS10.out.mg.d1F j hj).1;have ha11:=HS10.out.a.chg hc11' fun j hj=>(HS10.out.mg.d2F j hj).1;have hcw:Chg (fun j=>F j∨N1 j∨N2 j) w w11:=Chg.trans (HS10.out.ch.mono fun j _ e=> .inr e) hc11' fun j _ e=> .inl e;have z10:=HS10.out.ch.size
 have hF1w:∀j,F1 j→F j∨w.heap.size≤j:=fun j hj=>(hF11 j hj).imp id fun e=>by simp at e;omega
 have hd1:∀j,N10 j→¬F1 j:=fun j hj e=>(hF11 j e).elim (HS10.out.mg.d1F j hj).1 fun e=>by have:=(HS10.out.mg.d1F j hj).2.2.2;simp at e;omega
 obtain⟨NA,hNA⟩:∃N:Nat→Prop,(fun j=>((N2 j∨(Value.slice A1 (na.keys.length+(1+nb.keys.length)) c1).ownBlock=some j)∨(Value.slice A2 (na.vals.length+(1+nb.vals.length)) c2).ownBlock=some j)∨(Value.slice A3 (na.kids.length+nb.kids.length) c3).ownBlock=some j)=N:=⟨_,rfl⟩;rw[hNA] at ha11
 have hd2:∀j,NA j→¬F1 j:=fun j hj e=>by
  subst hNA;exact(hF11 j e).elim (HS10.out.mg.d2F j hj).1 fun e=>by have:=(HS10.out.mg.d2F j hj).2.2.2;simp at e;omega
 have hNw:∀j,NA j→N2 j∨w.heap.size≤j:=fun j hj=>by subst hNA;exact HS10.out.n2 j hj
 have eA:iv na.keys++(iv [k]++iv nb.keys)=iv (na.one nb k v).keys∧iv na.vals++(iv [v]++iv nb.vals)=iv (na.one nb k v).vals∧nv na.kids++nv nb.kids=nv (na.one nb k v).kids:=⟨by simp[Nd.one,iv],by simp[Nd.one,iv],by simp[Nd.one,nv]⟩;rw[eA.1,eA.2.1,eA.2.2] at ha11
 have hno:NdOwn w11 N10 bn qn ⟨nd.keys.eraseIdx i,nd.vals.eraseIdx i,nd.kids.eraseIdx (i+1)⟩:=NdV.own (nd:=⟨nd.keys.eraseIdx i,nd.vals.eraseIdx i,nd.kids.eraseIdx (i+1)⟩) hn11;have HF:=yH (yA5 hb11 hno ha11 hcw (yA4 hF1w hd1 hd2 hNw));have hdf:=Nd.del_fit (yP4 H.out).2.1 hil HVL.out.2.2;have hsz4:x.sz≤4096:=H.out.1.bt.gp.szs.2.2.2.1;have HD:=yH (yA hdf hsz4)
 obtain⟨m,hm⟩:∃m,nd.keys.length - 1=m:=⟨_,rfl⟩;have hbl:=hn11.blk;have hblt:=hb11.blk;have hbla:=ha11.blk;rw[hm] at hbl;have Hm:=yH hm;refine hK.out _ _ hS11 (fun _=>?_);clear hK K;(try simp only[Act.put,lZ])
 refine rdH (i:=9) (by kernel_rfl) rfl fun K hK=>?_;go_simp;refine hK.out _ _ hS11 (fun _=>?_);clear hK K;(try simp only[Act.put,lZ])
 refine wpAnyH_done (by kernel_rfl) ?_ _;clear hHeld hS10 hS11 hto hc11 hF11 hc11' hn11 ha11 hcw z10 hF1w hd1 hNA hd2 hNw eA hno hdf hsz4 hm hb11;obtain⟨d9,f9,s9⟩:=hbl.facts;obtain⟨t9,tf9,ts9⟩:=hblt.facts;obtain⟨a9,af9,as9⟩:=hbla.facts;have HBA:=yH hbla;have HBT:=yH hblt;clear hbl hblt hbla;have HX:=yH (yP8 H.out);by_cases hlast:qn=root∧m=0
 rotate_left
 case' _=>
  have hl:¬ (qn=root∧nd.keys.length=1):=fun e=>hlast ⟨e.1,by have:=Hm.out;omega⟩;have HL:=yH hl;clear hl
  have hor:(((qn:Int)==(root:Int))=true∧((m:Int)==0)=false∧decide (m=0)=false)∨((qn:Int)==(root:Int))=false:=by
   by_cases e:qn=root
   ·have e2:¬m=0:=fun e2=>hlast ⟨e,e2⟩
    exact .inl ⟨by simp[e],by simp;omega,by simpa using e2⟩
   ·exact .inr (by simp;omega)
  clear hlast;rcases hor with ⟨t1,t2,t3⟩ | t1
  case' _=>
   skip
  rotate_left
  case' _=>
   skip
  rotate_left
  all_goals
   go_wp2_with fail
   go_quiet (fail)
   go_wp2_with fail
   obtain⟨W12,hW12⟩:∃W,(w11.drewN nq).alloc (.cells #[.pointer (some ⟨ba,0,none⟩),.pointer (some ⟨bn,0,none⟩)] 69)=W:=⟨_,rfl⟩;rw[hW12];have hg12:Grew w11 W12:=hW12▸((Chg.refl NoF w11).drewN nq).alloc _;have hl12:Blk W12 w11.heap.size 69 #[.pointer (some ⟨ba,0,none⟩),.pointer (some ⟨bn,0,none⟩)]:=hW12▸Blk.new (w11.drewN nq) _ _
   have hal:=merge_all (w:=w) (W:=W12) (g:=w11.heap.size) (c:=2) (G:=fun j=>F j∨N1 j∨N2 j) (F:=F) (N2:=N2) (last:=qn=root∧nd.keys.length=1) (HF.out.1.grew hg12) H.out.2.1 HX.out.1 HX.out.2.1 HX.out.2.2.1 HX.out.2.2.2.1 (yP4 HX.out).1 (yP4 HX.out).2.1 (yP6 HX.out).1 (yP6 HX.out).2.1 (yP8 HX.out)
    ((NdV.own HF.out.2.2.1).grew hg12) (HF.out.2.1.grew hg12) (yP6 H.out).2.1 HD.out.1 (yP4 HF.out).2.1 (yP6 HF.out).1
    ⟨rfl,fun _=>⟨w11.heap.size,0,rfl,hl12.lt,fun j u hu=>by rw[Nat.zero_add,hl12.cell,←hu];simp⟩⟩ (fun e=>by have:=HF.out.1.gp.lt _ e;omega) (HF.out.2.2.2.1.grew hg12) (yP4 HF.out).1 (fun j e=> .inl e) (yP6 HF.out).2 HD.out.2 HL.out
   clear d9 f9 s9 t9 tf9 ts9 a9 af9 as9 hg12 hl12 hW12;have HE:=yH hal;clear hal
 rotate_left 2
 case' _=>
  obtain⟨e1,rfl⟩:=hlast;have t1:((qn:Int)==(root:Int))=true:=by simp[e1]
  have hl:qn=root∧nd.keys.length=1:=⟨e1,by have:=Hm.out;omega⟩;have HL:=yH hl;clear hl e1;have hbat:=HS10.out.mg.d2F _ HS10.out.a.nb;have n1:¬t=ba:=fun e=>hbat.2.1 e.symm;have n2:¬ba=t:=hbat.2.1;clear hbat;go_wp2_with fail
  go_quiet (fail)
  go_wp2_with fail
  obtain⟨W12,hW12⟩:∃W,(w11.drewN nq).setCell ⟨ba,0,none⟩ (.int .i64 root)=W:=⟨_,rfl⟩;rw[hW12];have hg12:Grew w11 (w11.drewN nq):=(Chg.refl NoF w11).drewN nq;have hap:=(HF.out.2.2.1.chg hg12 fun _ _=>id).page hW12;have hFba:¬F1 ba:=(yP6 HF.out).1 ba HF.out.2.2.1.nb
  have hbt12:=(HF.out.1.grew hg12).chg hap.2 (fun j hj e=>hFba (e▸hj)) (fun e=>by have:=(HS10.out.mg.d2F _ HS10.out.a.nb).2.2.1;omega) (fun e=>n1 e)
  have hc12:Chg (fun j=>F j∨N1 j∨N2 j) w W12:=Chg.trans (HF.out.2.2.2.1.grew hg12) hap.2 fun j hj e=>by
   subst e;exact .inr (.inr (((yP6 HF.out).2 _ HF.out.2.2.1.nb).resolve_right (by omega)))
  have hk1:=Rp.put_keep (c:= .no) HX.out.2.2.1 (yP6 HX.out).1;have hfr:=gp_free_any p F1 (x.put q2 .no) W12 q1 p1 hbt12.gp H.out.2.1 hk1 HX.out.2.2.2.1;have H12:=yH (yA4 hfr hap.1 hbt12 hc12);clear hfr hap hFba hbt12 hc12 hk1 hg12 d9 f9 s9 t9 tf9 ts9 a9 af9 as9;go_wp2_with fail
  refine H12.out.1.mono ?_;rintro e w13 (⟨rfl,hto⟩ | ⟨hns,rfl,hg13⟩);rotate_left
  ·have hout:FullG (fun j=>F j∨N1 j∨N2 j) w w13 t p root F x 0:=⟨x.put q2 .no,F1,H12.out.2.2.1.grew hg13,H12.out.2.2.2.grew hg13,(yP4 HF.out).1,x.put_like _ _,by have:=Rp.put_usedF (yP4 HX.out).1 (yP4 HX.out).2.1;omega,fun e=>by have:=e.1;omega⟩
   have HO:=yH hout;clear hout hg13 hns;go_wp2_with fail
   go_ret
   exact .inr ⟨rfl,HO.out⟩
  obtain⟨F2,hb13,hc13,hF13⟩:=H12.out.2.2.1.to hto;have hl1:=H12.out.2.1.lt;have hF1l:=H12.out.2.2.1.gp.lt
  have hsv:=merge_save (w:=w) (W:=w13) (G:=fun j=>F j∨N1 j∨N2 j) (F:=F) (N2:=N2) (qn:=qn) (nd':=⟨nd.keys.eraseIdx i,nd.vals.eraseIdx i,nd.kids.eraseIdx (i+1)⟩) (last:=qn=root∧nd.keys.length=1) hb13 H.out.2.1 (HL.out.1▸HX.out.1) HX.out.2.1 HX.out.2.2.1 HX.out.2.2.2.1 (yP4 HX.out).1 (yP4 HX.out).2.1 (yP6 HX.out).1 (HL.out.1▸(yP6 HX.out).2.1) (HL.out.1▸(yP8 HX.out))
   (NdV.own (H12.out.2.1.chg hc13 (yP6 HF.out).1)) (yP6 H.out).2.1 (fun j hj e=>(hF13 j e).elim ((yP6 HF.out).1 j hj) fun e=>by have:=hl1 j hj;omega)
   (Chg.trans H12.out.2.2.2 hc13 fun j hj e=> .inl (((yP4 HF.out).1 j e).resolve_right (by omega))) (fun j hj=>(hF13 j hj).elim ((yP4 HF.out).1 j) fun e=> .inr (by have:=H12.out.2.2.2.size;omega)) (fun j e=> .inl e) (yP6 HF.out).2 HD.out.2 HL.out
  have HE:=yH hsv;clear hsv hto hb13 hc13 hF13 hl1 hF1l;go_wp2_with fail
 rotate_left
 all_goals
  refine HE.out.mono ?_;rintro e w' (⟨rfl,hr⟩ | ⟨rfl,hr⟩)
  ·have HO:=yH hr
   clear hr;go_wp2_with fail
   go_ret
   exact .inl ⟨rfl,HO.out⟩
  ·have HO:=yH hr
   clear hr;go_wp2_with fail
   go_ret
   exact .inr ⟨rfl,HO.out⟩
end
section
open Go.RowKit Go.Maps
structure Z3 (w W:World) (t p root:Nat) (F:Nat→Prop) (x:Rp) (N1 N2 N3 M2:Nat→Prop):Prop where
 bt:BT W t p root F x
 d12:∀j,N1 j→¬M2 j
 d13:∀j,N1 j→¬N3 j
 d23:∀j,M2 j→¬N3 j
 f1:∀j,N1 j→¬F j∧j≠t∧j≠0∧j< w.heap.size
 f2:∀j,M2 j→¬F j∧j≠t∧j≠0∧j< W.heap.size
 f3:∀j,N3 j→¬F j∧j≠t∧j≠0∧j< w.heap.size
 ch:Chg (fun j=>N1 j∨N2 j∨N3 j) w W
 n2:∀j,M2 j→N2 j∨w.heap.size≤j
section
variable {w W W':World} {t p root:Nat} {F N1 N2 N3 M2 M2' G:Nat→Prop} {x:Rp}
theorem Z3.turn (z:Z3 w W t p root F x N1 N2 N3 M2) (hc:Chg G W W') (hG:∀j,G j→N1 j∨M2 j∨N3 j) (h2:∀j,M2' j→M2 j∨(W.heap.size≤j∧j< W'.heap.size)):Z3 w W' t p root F x N1 N2 N3 M2':=by
 have hF:=z.bt.gp.lt;have ht:=z.bt.blk.lt;have hp:=tab_pos z.bt.gp.tab;have hz:=hc.size;have hz0:=z.ch.size
 have e:∀j,G j→¬F j∧j≠t∧j≠0:=fun j hj=>by
  rcases hG j hj with e | e | e
  ·exact⟨(z.f1 j e).1,(z.f1 j e).2.1,(z.f1 j e).2.2.1⟩
  ·exact⟨(z.f2 j e).1,(z.f2 j e).2.1,(z.f2 j e).2.2.1⟩
  ·exact⟨(z.f3 j e).1,(z.f3 j e).2.1,(z.f3 j e).2.2.1⟩
 refine⟨z.bt.chg hc (fun j hj g=>(e j g).1 hj) (fun g=>(e 0 g).2.2 rfl) (fun g=>(e t g).2.1 rfl),fun j hj g=>?_,z.d13,fun j hj g=>?_,z.f1,fun j hj=>?_,z.f3,Chg.trans z.ch hc fun j hj g=>?_,fun j hj=>?_⟩
 ·rcases h2 j g with e | e
  ·exact z.d12 j hj e
  ·have:=(z.f1 j hj).2.2.2;omega
 ·rcases h2 j hj with e | e
  ·exact z.d23 j e g
  ·have:=(z.f3 j g).2.2.2;omega
 ·rcases h2 j hj with e | e
  ·obtain⟨a,b,c,d⟩:=z.f2 j e;exact⟨a,b,c,by omega⟩
  ·exact⟨fun f=>by have:=hF j f;omega,by omega,by omega,e.2⟩
 ·rcases hG j g with e | e | e
  ·exact .inl e
  ·exact .inr (.inl ((z.n2 j e).resolve_right (by omega)))
  ·exact .inr (.inr e)
 ·rcases h2 j hj with e | e
  ·exact z.n2 j e
  ·exact .inr (by omega)
theorem Z3.same (z:Z3 w W t p root F x N1 N2 N3 M2) (hc:Chg G W W') (hG:∀j,G j→N1 j∨M2 j∨N3 j):Z3 w W' t p root F x N1 N2 N3 M2:=z.turn hc hG fun _ h=> .inl h
theorem Z3.grew (z:Z3 w W t p root F x N1 N2 N3 M2) (hc:Grew W W'):Z3 w W' t p root F x N1 N2 N3 M2:=z.same hc fun _ h=>h.elim
end
theorem putAll_nd:∀ (its:List SvIt) (x:Rp),(its.map (·.q)).Nodup→(∀it∈its,it.nd.Fit x.sz∧it.q< x.now.length)→x.sz≤4096→(∀it∈its,(putAll x its).nd it.q=some it.nd)∧∀i,i∉its.map (·.q)→(putAll x its).nd i=x.nd i
 | [],x,_,_,_=>⟨fun _ h=>(by cases h),fun _ _=>rfl⟩
 | it :: r,x,hn,hf,hz=>by
  obtain⟨h1,h2⟩:=List.nodup_cons.1 hn
  obtain⟨g1,g2⟩:=putAll_nd r (x.put it.q (.new (ndL it.nd x.sz))) h2 (fun i hi=>by
   have:=hf i (List.mem_cons_of_mem _ hi);exact⟨this.1,by rw[Rp.put_len];exact this.2⟩) hz
  have f0:=hf it List.mem_cons_self;refine⟨fun i hi=>?_,fun i hi=>?_⟩
  ·rcases List.mem_cons.1 hi with rfl | e
   ·show(putAll (x.put i.q (.new (ndL i.nd x.sz))) r).nd i.q=_
    rw[g2 i.q h1];exact Rp.nd_new f0.1 f0.2 hz
   ·exact g1 i e
  ·simp only[List.map_cons,List.mem_cons,not_or] at hi
   show(putAll (x.put it.q (.new (ndL it.nd x.sz))) r).nd i=_;rw[g2 i hi.2,Rp.nd_other hi.1]
theorem putAll_used:∀ (its:List SvIt) (x:Rp),(∀it∈its,∃c,x.now[it.q]? =some c∧c.used=true)→(putAll x its).now.countP Pk.used=x.now.countP Pk.used
 | [],_,_=>rfl
 | it :: r,x,h=>by
  obtain⟨c,h1,h2⟩:=h it List.mem_cons_self;show(putAll (x.put it.q (.new (ndL it.nd x.sz))) r).now.countP Pk.used=_
  rw[putAll_used r _ fun i hi=>by
   obtain⟨c',h3,h4⟩:=h i (List.mem_cons_of_mem _ hi);exact Rp.put_same h3 h4 rfl,Rp.put_usedU h1 h2 rfl]
def FlOut (G:Nat→Prop) (w w':World) (t p root bb qa qb qn:Nat) (F N2:Nat→Prop) (x:Rp) (a' b' n':Nd) (e:Ending):Prop:=
 (e= .returned (.int .i64 0)∧∃y F' N',BT w' t p root F' y∧Chg G w w'∧(∀j,F' j→F j∨w.heap.size≤j)∧NdOwn w' N' bb qb b'∧(∀j,N' j→¬F' j)∧(∀j,N' j→N2 j∨w.heap.size≤j)∧x.like y∧
  y.nd qa=some a'∧y.nd qb=some b'∧y.nd qn=some n'∧(∀i,i≠qa→i≠qb→i≠qn→y.nd i=x.nd i)∧y.now.countP Pk.used=x.now.countP Pk.used)∨
 (e= .returned (.int .i64 21)∧FullG G w w' t p root F x 0)
theorem fl_end {w W:World} {t p root ba bb bn qa qb qn g c:Nat} {F N1 N2 N3 M2 G:Nat→Prop} {x:Rp} {a' b' n':Nd} {its:List SvIt} (z:Z3 w W t p root F x N1 N2 N3 M2) (ho:x.was≠none)
  (ha:NdAt W N3 ba qa a') (hb:NdOwn W M2 bb qb b') (hn:NdAt W N1 bn qn n') (fa:a'.Fit x.sz) (fb:b'.Fit x.sz) (fn:n'.Fit x.sz)
  (ua:∃c,x.now[qa]? =some c∧c.used=true) (ub:∃c,x.now[qb]? =some c∧c.used=true) (un:∃c,x.now[qn]? =some c∧c.used=true) (eab:qa≠qb) (ean:qa≠qn) (ebn:qb≠qn)
  (hi:its=[⟨ba,N3,qa,a'⟩,⟨bb,M2,qb,b'⟩,⟨bn,N1,qn,n'⟩]∨its=[⟨bb,M2,qb,b'⟩,⟨ba,N3,qa,a'⟩,⟨bn,N1,qn,n'⟩])
  (hs:Sl W 1 (some ⟨g,0,none⟩) 3 (pv its)) (hg:¬F g) (hG1:∀j,N1 j∨N2 j∨N3 j→G j) (hGF:∀j,F j→G j) (hz:x.sz≤4096) :
  Calls prog 88 #[.pointer (some ⟨t,0,none⟩),.slice (some ⟨g,0,none⟩) 3 c] W fun e w'=>FlOut G w w' t p root bb qa qb qn F N2 x a' b' n' e:=by
 have hgW:g< W.heap.size:=by obtain⟨b,o,e,hb, -⟩:=hs.2 (by omega);cases e;exact hb
 have hmem:∀it∈its,it=⟨ba,N3,qa,a'⟩∨it=⟨bb,M2,qb,b'⟩∨it=⟨bn,N1,qn,n'⟩:=fun it hit=>by
  rcases hi with rfl | rfl
  all_goals
   simp only[List.mem_cons,List.not_mem_nil,or_false] at hit;rcases hit with h | h | h<;>simp[h]
 have hin:∀it,(it=⟨ba,N3,qa,a'⟩∨it=⟨bb,M2,qb,b'⟩∨it=⟨bn,N1,qn,n'⟩)→it∈its:=fun it hit=>by
  rcases hi with rfl | rfl
  all_goals
   simp only[List.mem_cons,List.not_mem_nil,or_false];rcases hit with h | h | h<;>simp[h]
 have hlen:its.length=3:=by rcases hi with rfl | rfl<;>rfl
 have hq:(its.map (·.q)).Nodup:=by
  rcases hi with rfl | rfl
  ·simp[eab,ean,ebn]
  ·simp[Ne.symm eab,ean,ebn]
 have hqs:∀i,i∉its.map (·.q)↔i≠qa∧i≠qb∧i≠qn:=fun i=>by
  rcases hi with rfl | rfl
  ·simp
  ·simp
   constructor
   ·rintro⟨h1,h2,h3⟩;exact⟨h2,h1,h3⟩
   ·rintro⟨h1,h2,h3⟩;exact⟨h2,h1,h3⟩
 have hus:∀it∈its,∃c,x.now[it.q]? =some c∧c.used=true:=fun it hit=>by
  rcases hmem it hit with rfl | rfl | rfl
  ·exact ua
  ·exact ub
  ·exact un
 have hfit:∀it∈its,it.nd.Fit x.sz∧it.q< x.now.length:=fun it hit=>by
  obtain⟨c,h1, -⟩:=hus it hit;refine⟨?_,(List.getElem?_eq_some_iff.1 h1).1⟩;rcases hmem it hit with rfl | rfl | rfl
  ·exact fa
  ·exact fb
  ·exact fn
 have hal:=ball_any t p root g 3 c F x its W z.bt ho (fun it hit=>by
  refine⟨?_,(hfit it hit).1,hus it hit,?_⟩
  ·rcases hmem it hit with rfl | rfl | rfl
   ·exact ha
   ·exact hb.at
   ·exact hn
  ·rcases hmem it hit with rfl | rfl | rfl
   ·exact fun j hj=>(z.f3 j hj).1
   ·exact fun j hj=>(z.f2 j hj).1
   ·exact fun j hj=>(z.f1 j hj).1) hlen (by omega) hs hg hgW
 refine hal.mono ?_;have hsz:=z.ch.size;have hblt:=hb.at.lt;rintro e w' (⟨rfl,F2,h1,h2,h3⟩ | ⟨rfl,y,⟨F2,h1,h2,h3⟩,h4,h5,h6⟩)
 ·obtain⟨g1,g2⟩:=putAll_nd its x hq hfit hz
  refine .inl ⟨rfl,_,F2,M2,h1,Chg.trans (z.ch.mono fun j _ e=>hG1 j e) h2 fun j hj e=>hGF j e,fun j hj=>(h3 j hj).imp id fun e=>by omega,hb.chg h2 fun j hj=>(z.f2 j hj).1,fun j hj e=>(h3 j e).elim (z.f2 j hj).1 fun e=>by have:=hblt j hj;omega,z.n2,putAll_like _ _,g1 _ (hin _ (.inl rfl)),g1 _ (hin _ (.inr (.inl rfl))),g1 _ (hin _ (.inr (.inr rfl))),fun i i1 i2 i3=>g2 i ((hqs i).2 ⟨i1,i2,i3⟩),putAll_used its x hus⟩
 ·exact .inr ⟨rfl,y,F2,h1,Chg.trans (z.ch.mono fun j _ e=>hG1 j e) h2 fun j hj e=>hGF j e,fun j hj=>(h3 j hj).imp id fun e=>by omega,h4,h5,h6⟩
structure FlB (w W:World) (t p root:Nat) (F:Nat→Prop) (x:Rp) (N1 N2 N3 M2:Nat→Prop) (bb qb:Nat) (bk bv bc:Value) (lk lv lc:List Value) (bn qn:Nat) (uk uv uc:Value) (mk mv mc:List Value):Prop where
 z:Z3 w W t p root F x N1 N2 N3 M2
 b:NdV W M2 bb qb bk bv bc lk lv lc
 n:NdV W N1 bn qn uk uv uc mk mv mc
section
variable {w W W':World} {t p root bb qb bn qn:Nat} {F N1 N2 N3 M2 M2':Nat→Prop} {x:Rp} {bk bv bc uk uv uc bk' bv' bc' uk' uv' uc':Value} {lk lv lc mk mv mc lk' lv' lc' mk' mv' mc':List Value}
theorem FlB.bset (s:FlB w W t p root F x N1 N2 N3 M2 bb qb bk bv bc lk lv lc bn qn uk uv uc mk mv mc) (hc:Chg M2 W W') (hb:NdV W' M2' bb qb bk' bv' bc' lk' lv' lc') (h2:∀j,M2' j→M2 j∨W.heap.size≤j) :
  FlB w W' t p root F x N1 N2 N3 M2' bb qb bk' bv' bc' lk' lv' lc' bn qn uk uv uc mk mv mc:=
 ⟨s.z.turn hc (fun _ h=> .inr (.inl h)) fun j hj=>(h2 j hj).imp id fun e=>⟨e,hb.lt j hj⟩,hb,s.n.chg hc fun j hj e=>s.z.d12 j hj e⟩
theorem FlB.nset (s:FlB w W t p root F x N1 N2 N3 M2 bb qb bk bv bc lk lv lc bn qn uk uv uc mk mv mc) (hc:Chg N1 W W') (hn:NdV W' N1 bn qn uk' uv' uc' mk' mv' mc') :
  FlB w W' t p root F x N1 N2 N3 M2 bb qb bk bv bc lk lv lc bn qn uk' uv' uc' mk' mv' mc':=
 ⟨s.z.same hc fun _ h=> .inl h,s.b.chg hc fun j hj e=>s.z.d12 j e hj,hn⟩
theorem FlB.aset (s:FlB w W t p root F x N1 N2 N3 M2 bb qb bk bv bc lk lv lc bn qn uk uv uc mk mv mc) (hc:Chg N3 W W') :
  FlB w W' t p root F x N1 N2 N3 M2 bb qb bk bv bc lk lv lc bn qn uk uv uc mk mv mc:=
 ⟨s.z.same hc fun _ h=> .inr (.inr h),s.b.chg hc fun j hj e=>s.z.d23 j hj e,s.n.chg hc fun j hj e=>s.z.d13 j hj e⟩
theorem NdV.kcell {N:Nat→Prop} {b q g c n:Nat} {A:Option Addr} {l:List Int} {vv vc:Value} {lv lc:List Value} (h:NdV W N b q (.slice A n c) vv vc (iv l) lv lc) (hn:l.length=n) (hA:A=some ⟨g,0,none⟩) {j:Nat} {a:Int} (hj:l[j]? =some a):W.cell? ⟨g,j,none⟩=some (.int .i64 a)∧N g:=by
 subst hA;have r:=h.rk;rw[iv_len,hn] at r;refine⟨?_,h.nk g (own_blockOf r _ rfl)⟩;obtain⟨b',o,e, -,hx⟩:=(Sl.of_own r).2 (by have:=(List.getElem?_eq_some_iff.1 hj).1;omega)
 cases e
 have:=hx j (.int .i64 a) (by simp[iv,hj]);rwa[Nat.zero_add] at this
theorem NdV.vcell {N:Nat→Prop} {b q g c n:Nat} {A:Option Addr} {l:List Int} {vk vc:Value} {lk lc:List Value} (h:NdV W N b q vk (.slice A n c) vc lk (iv l) lc) (hn:l.length=n) (hA:A=some ⟨g,0,none⟩) {j:Nat} {a:Int} (hj:l[j]? =some a):W.cell? ⟨g,j,none⟩=some (.int .i64 a)∧N g:=by
 subst hA;have r:=h.rv;rw[iv_len,hn] at r;refine⟨?_,h.nv g (own_blockOf r _ rfl)⟩;obtain⟨b',o,e, -,hx⟩:=(Sl.of_own r).2 (by have:=(List.getElem?_eq_some_iff.1 hj).1;omega)
 cases e
 have:=hx j (.int .i64 a) (by simp[iv,hj]);rwa[Nat.zero_add] at this
theorem NdV.ccell {N:Nat→Prop} {b q g c n:Nat} {A:Option Addr} {l:List Nat} {vk vv:Value} {lk lv:List Value} (h:NdV W N b q vk vv (.slice A n c) lk lv (Go.Proofs.YtpkkcicaeldodaaGreatDoor.nv l)) (hn:l.length=n) (hA:A=some ⟨g,0,none⟩) {j:Nat} {a:Nat} (hj:l[j]? =some a):W.cell? ⟨g,j,none⟩=some (.int .i64 a)∧N g:=by
 subst hA;have r:=h.rc;rw[nv_len,hn] at r;refine⟨?_,h.nc g (own_blockOf r _ rfl)⟩;obtain⟨b',o,e, -,hx⟩:=(Sl.of_own r).2 (by have:=(List.getElem?_eq_some_iff.1 hj).1;omega)
 cases e
 have:=hx j (.int .i64 a) (by simp[Go.Proofs.YtpkkcicaeldodaaGreatDoor.nv,hj]);rwa[Nat.zero_add] at this
theorem NdV.kset {N:Nat→Prop} {b q g c n:Nat} {l:List Int} {vv vc:Value} {lv lc:List Value} (h:NdV W N b q (.slice (some ⟨g,0,none⟩) n c) vv vc (iv l) lv lc) (hn:l.length=n) {j:Nat} (hj:j< n) :
  W.frozen? ⟨g,j,none⟩=false∧∀ (a:Int) (W2:World),W.setCell ⟨g,j,none⟩ (.int .i64 a)=W2→NdV W2 N b q (.slice (some ⟨g,0,none⟩) n c) vv vc (iv (l.set j a)) lv lc∧Chg (fun j=>j=g) W W2∧N g:=by
 have r:=h.rk;rw[iv_len,hn] at r;have hown:=own_blockOf r _ rfl;obtain⟨e1,e2,e3⟩:=h.ne;have hgN:=h.nk g hown;obtain⟨cur,hb,hg,hnc,hcm,hcs,htake,hxl⟩:=own_row r;have hB:Blk W g 3 cur:=hg;refine⟨hB.frozen j,fun a W2 hW=>?_⟩;have hc:Chg (fun j=>j=g) W W2:=hW▸(Chg.refl (fun j=>j=g) W).setCell (p:=⟨g,j,none⟩) (fun _=>rfl) _
 have r2:=own_set (u:= .int .i64 a) r hj;rw[hW,show(iv l).set j (.int .i64 a)=iv (l.set j a) by simp[iv,List.map_set]] at r2
 refine⟨⟨h.blk.chg hc fun e=>e1 (by rw[hown,e]),by rw[iv_len,List.length_set,hn];exact r2,own_chg h.rv hc fun g' hg' e=>h.kv g hown (by rw[←e];exact hg'),own_chg h.rc hc fun g' hg' e=>h.kc g hown (by rw[←e];exact hg'),h.nb,h.nk,h.nv,h.nc,fun j hj=>Nat.lt_of_lt_of_le (h.lt j hj) hc.size,h.kv,h.kc,h.vc_⟩,hc,hgN⟩
theorem NdV.vset {N:Nat→Prop} {b q g c n:Nat} {l:List Int} {vk vc:Value} {lk lc:List Value} (h:NdV W N b q vk (.slice (some ⟨g,0,none⟩) n c) vc lk (iv l) lc) (hn:l.length=n) {j:Nat} (hj:j< n) :
  W.frozen? ⟨g,j,none⟩=false∧∀ (a:Int) (W2:World),W.setCell ⟨g,j,none⟩ (.int .i64 a)=W2→NdV W2 N b q vk (.slice (some ⟨g,0,none⟩) n c) vc lk (iv (l.set j a)) lc∧Chg (fun j=>j=g) W W2∧N g:=by
 have r:=h.rv;rw[iv_len,hn] at r;have hown:=own_blockOf r _ rfl;obtain⟨e1,e2,e3⟩:=h.ne;have hgN:=h.nv g hown;obtain⟨cur,hb,hg,hnc,hcm,hcs,htake,hxl⟩:=own_row r;have hB:Blk W g 3 cur:=hg;refine⟨hB.frozen j,fun a W2 hW=>?_⟩;have hc:Chg (fun j=>j=g) W W2:=hW▸(Chg.refl (fun j=>j=g) W).setCell (p:=⟨g,j,none⟩) (fun _=>rfl) _
 have r2:=own_set (u:= .int .i64 a) r hj;rw[hW,show(iv l).set j (.int .i64 a)=iv (l.set j a) by simp[iv,List.map_set]] at r2
 refine⟨⟨h.blk.chg hc fun e=>e2 (by rw[hown,e]),own_chg h.rk hc fun g' hg' e=>h.kv g' hg' (by rw[e];exact hown),by rw[iv_len,List.length_set,hn];exact r2,own_chg h.rc hc fun g' hg' e=>h.vc_ g hown (by rw[←e];exact hg'),h.nb,h.nk,h.nv,h.nc,fun j hj=>Nat.lt_of_lt_of_le (h.lt j hj) hc.size,h.kv,h.kc,h.vc_⟩,hc,hgN⟩
theorem NdV.apart {N:Nat→Prop} {b q g1 g2 c1 c2 n1 n2:Nat} {vc:Value} {lk lv lc:List Value} (h:NdV W N b q (.slice (some ⟨g1,0,none⟩) n1 c1) (.slice (some ⟨g2,0,none⟩) n2 c2) vc lk lv lc):g1≠g2∧g1≠b∧g2≠b:=by
 obtain⟨e1,e2, -⟩:=h.ne;exact⟨fun e=>h.kv g1 rfl (by rw[e];rfl),fun e=>e1 (by rw[e];rfl),fun e=>e2 (by rw[e];rfl)⟩
theorem own_cut {w:World} {base n m c g:Nat} {l:List Int} (h:w.ownsRow base 3 1 (.slice (some ⟨g,0,none⟩) n c) n (iv l)) (hm:m≤n):w.ownsRow base 3 1 (.slice (some ⟨g,0,none⟩) m c) m (iv (l.take m)):=by
 have:=own_short h hm;rw[Nat.mul_one,←iv_take] at this;exact this
theorem NdV.cut2 {N:Nat→Prop} {b q g1 g2 c1 c2 n m:Nat} {vc:Value} {lk lv:List Int} {lc:List Value} (h:NdV W N b q (.slice (some ⟨g1,0,none⟩) n c1) (.slice (some ⟨g2,0,none⟩) n c2) vc (iv lk) (iv lv) lc) (h1:lk.length=n) (h2:lv.length=n) (hm:m≤n)
  (hW:((W.setCell ⟨b,1,none⟩ (.slice (some ⟨g1,0,none⟩) m c1)).setCell ⟨b,2,none⟩ (.slice (some ⟨g2,0,none⟩) m c2)).drew=W'):NdV W' N b q (.slice (some ⟨g1,0,none⟩) m c1) (.slice (some ⟨g2,0,none⟩) m c2) vc (iv (lk.take m)) (iv (lv.take m)) lc∧Chg (fun j=>j=b) W W':=by
 have hc:Chg (fun j=>j=b) W W':=hW▸(((Chg.refl (fun j=>j=b) W).setCell (p:=⟨b,1,none⟩) (fun _=>rfl) _).setCell (p:=⟨b,2,none⟩) (fun _=>rfl) _).drew;obtain⟨e1,e2,e3⟩:=h.ne;have r1:=h.rk;rw[iv_len,h1] at r1;have r2:=h.rv;rw[iv_len,h2] at r2;have l1:(lk.take m).length=m:=by rw[List.length_take];omega
 have l2:(lv.take m).length=m:=by rw[List.length_take];omega
 refine⟨⟨?_,by rw[iv_len,l1];exact own_cut (own_chg r1 hc fun g hg e=>e1 (by rw[←e];exact hg)) hm,by rw[iv_len,l2];exact own_cut (own_chg r2 hc fun g hg e=>e2 (by rw[←e];exact hg)) hm,own_chg h.rc hc fun g hg e=>e3 (by rw[←e];exact hg),h.nb,h.nk,h.nv,h.nc,fun j hj=>Nat.lt_of_lt_of_le (h.lt j hj) hc.size,h.kv,h.kc,h.vc_⟩,hc⟩;subst hW
 have:=((h.blk.put 1 (.slice (some ⟨g1,0,none⟩) m c1)).put 2 (.slice (some ⟨g2,0,none⟩) m c2)).drew;simpa using this
theorem NdV.cutC {N:Nat→Prop} {b q g c n m:Nat} {vk vv:Value} {lk lv:List Value} {l:List Nat} (h:NdV W N b q vk vv (.slice (some ⟨g,0,none⟩) n c) lk lv (Go.Proofs.YtpkkcicaeldodaaGreatDoor.nv l)) (h1:l.length=n) (hm:m≤n)
  (hW:W.setCell ⟨b,3,none⟩ (.slice (some ⟨g,0,none⟩) m c)=W'):NdV W' N b q vk vv (.slice (some ⟨g,0,none⟩) m c) lk lv (Go.Proofs.YtpkkcicaeldodaaGreatDoor.nv (l.take m))∧Chg (fun j=>j=b) W W':=by
 have hc:Chg (fun j=>j=b) W W':=hW▸(Chg.refl (fun j=>j=b) W).setCell (p:=⟨b,3,none⟩) (fun _=>rfl) _;obtain⟨e1,e2,e3⟩:=h.ne;have r1:=h.rc;rw[nv_len,h1] at r1;rw[nv_ivm] at r1;have l1:(l.take m).length=m:=by rw[List.length_take];omega
 refine⟨⟨?_,own_chg h.rk hc fun g hg e=>e1 (by rw[←e];exact hg),own_chg h.rv hc fun g hg e=>e2 (by rw[←e];exact hg),?_,h.nb,h.nk,h.nv,h.nc,fun j hj=>Nat.lt_of_lt_of_le (h.lt j hj) hc.size,h.kv,h.kc,h.vc_⟩,hc⟩
 ·subst hW
  have:=h.blk.put 3 (.slice (some ⟨g,0,none⟩) m c);simpa using this
 ·rw[nv_len,l1,nv_ivm,List.map_take]
  exact own_cut (own_chg r1 hc fun g hg e=>e3 (by rw[←e];exact hg)) hm
end
section
variable {sz:Nat} {nd:Nd} {k v:Int} {c:List Nat}
theorem Nd.cutL_fit (f:nd.Fit sz) (h:1≤nd.keys.length):nd.cutL.Fit sz:=by
 have hv:=f.vals;have hm:=f.most;refine⟨by simp[Nd.cutL];omega,by simp[Nd.cutL];omega,?_,fun k hk=>f.ki k (List.mem_of_mem_take hk),fun k hk=>f.vi k (List.mem_of_mem_take hk),fun k hk=>f.ci k (List.mem_of_mem_take hk)⟩;rcases f.kids with e | e
 ·left;simp[Nd.cutL,e]
 ·right;simp[Nd.cutL];omega
theorem Nd.cutF_fit (f:nd.Fit sz) (h:1≤nd.keys.length):nd.cutF.Fit sz:=by
 have hv:=f.vals;have hm:=f.most;refine⟨by simp[Nd.cutF];omega,by simp[Nd.cutF];omega,?_,fun k hk=>f.ki k (List.mem_of_mem_drop hk),fun k hk=>f.vi k (List.mem_of_mem_drop hk),fun k hk=>f.ci k (List.mem_of_mem_drop hk)⟩;rcases f.kids with e | e
 ·left;simp[Nd.cutF,e]
 ·right;simp[Nd.cutF];omega
theorem Nd.addF_fit (f:nd.Fit sz) (hm:nd.keys.length+1≤mostN sz) (hk:i64 k) (hv:i64 v) (hc:(nd.kids=[]∧c=[])∨(nd.kids.length=nd.keys.length+1∧c.length=1)) (hci:∀q∈c,q< 65536):(nd.addF k v c).Fit sz:=by
 have hvl:=f.vals;refine⟨by simp[Nd.addF,hvl],by simp[Nd.addF];omega,?_,fun a ha=>?_,fun a ha=>?_,fun a ha=>?_⟩
 ·rcases hc with ⟨e1,e2⟩ | ⟨e1,e2⟩
  ·left;simp[Nd.addF,e1,e2]
  ·right;simp[Nd.addF];omega
 ·rcases List.mem_cons.1 ha with e | e
  ·exact e▸hk
  ·exact f.ki a e
 ·rcases List.mem_cons.1 ha with e | e
  ·exact e▸hv
  ·exact f.vi a e
 ·rcases List.mem_append.1 ha with e | e
  ·exact hci a e
  ·exact f.ci a e
theorem Nd.addL_fit (f:nd.Fit sz) (hm:nd.keys.length+1≤mostN sz) (hk:i64 k) (hv:i64 v) (hc:(nd.kids=[]∧c=[])∨(nd.kids.length=nd.keys.length+1∧c.length=1)) (hci:∀q∈c,q< 65536):(nd.addL k v c).Fit sz:=by
 have hvl:=f.vals;refine⟨by simp[Nd.addL,hvl],by simp[Nd.addL];omega,?_,fun a ha=>?_,fun a ha=>?_,fun a ha=>?_⟩
 ·rcases hc with ⟨e1,e2⟩ | ⟨e1,e2⟩
  ·left;simp[Nd.addL,e1,e2]
  ·right;simp[Nd.addL];omega
 ·rcases List.mem_append.1 ha with e | e
  ·exact f.ki a e
  ·rw[List.mem_singleton] at e;exact e▸hk
 ·rcases List.mem_append.1 ha with e | e
  ·exact f.vi a e
  ·rw[List.mem_singleton] at e;exact e▸hv
 ·rcases List.mem_append.1 ha with e | e
  ·exact f.ci a e
  ·exact hci a e
theorem Nd.set_fit {j:Nat} (f:nd.Fit sz) (hk:i64 k) (hv:i64 v):(⟨nd.keys.set j k,nd.vals.set j v,nd.kids⟩:Nd).Fit sz:=by
 refine⟨by simp[f.vals],by simp;exact f.most,?_,fun a ha=>?_,fun a ha=>?_,f.ci⟩
 ·rcases f.kids with e | e
  ·exact .inl e
  ·right;simp;exact e
 ·rcases List.mem_or_eq_of_mem_set ha with e | e
  ·exact f.ki a e
  ·exact e▸hk
 ·rcases List.mem_or_eq_of_mem_set ha with e | e
  ·exact f.vi a e
  ·exact e▸hv
end
theorem fl_fin {w W:World} {t p root ba bb bn qa qb qn:Nat} {F N1 N2 N3 M2 G:Nat→Prop} {x:Rp} {a' b' n':Nd} {its:List SvIt} (z:Z3 w W t p root F x N1 N2 N3 M2) (ho:x.was≠none)
  (ha:NdAt W N3 ba qa a') (hb:NdOwn W M2 bb qb b') (hn:NdAt W N1 bn qn n') (fa:a'.Fit x.sz) (fb:b'.Fit x.sz) (fn:n'.Fit x.sz)
  (ua:∃c,x.now[qa]? =some c∧c.used=true) (ub:∃c,x.now[qb]? =some c∧c.used=true) (un:∃c,x.now[qn]? =some c∧c.used=true) (eab:qa≠qb) (ean:qa≠qn) (ebn:qb≠qn)
  (hi:its=[⟨ba,N3,qa,a'⟩,⟨bb,M2,qb,b'⟩,⟨bn,N1,qn,n'⟩]∨its=[⟨bb,M2,qb,b'⟩,⟨ba,N3,qa,a'⟩,⟨bn,N1,qn,n'⟩])
  (hG1:∀j,N1 j∨N2 j∨N3 j→G j) (hGF:∀j,F j→G j) (hz:x.sz≤4096) :
  Calls prog 88 #[.pointer (some ⟨t,0,none⟩),.slice (some ⟨W.heap.size,0,none⟩) 3 3] (W.alloc (.cells (pv its).toArray 69)) fun e w'=>FlOut G w w' t p root bb qa qb qn F N2 x a' b' n' e:=by
 have hg:Grew W (W.alloc (.cells (pv its).toArray 69)):=(Chg.refl _ _).alloc _;have hl:Blk (W.alloc (.cells (pv its).toArray 69)) W.heap.size 69 (pv its).toArray:=Blk.new _ _ _;have hlen:(pv its).length=3:=by rcases hi with rfl | rfl<;>rfl
 exact fl_end (z.grew hg) ho (ha.grew hg) (hb.grew hg) (hn.grew hg) fa fb fn ua ub un eab ean ebn hi ⟨hlen,fun _=>⟨W.heap.size,0,rfl,hl.lt,fun j u hu=>by rw[Nat.zero_add,hl.cell,←hu];simp⟩⟩ (fun e=>by have:=z.bt.gp.lt _ e;omega) hG1 hGF hz
end
section
open Go.RowKit Go.Maps
def FlR (w W:World) (t p root:Nat) (F:Nat→Prop) (x:Rp) (N1 N2 N3:Nat→Prop) (bb qb kl vl:Nat) (lk lv:List Int) (vc:Value) (lc:List Value) (bn qn:Nat) (uk uv uc:Value) (mk mv mc:List Value):Prop:=
 ∃A c A' c' M2,FlB w W t p root F x N1 N2 N3 M2 bb qb (.slice A kl c) (.slice A' vl c') vc (iv lk) (iv lv) lc bn qn uk uv uc mk mv mc∧Chg N2 w W
theorem bfromL_any (t p root bn qn ba qa bb qb ii j ka l:Nat) (k v k1 v1:Int) (F N1 N2 N3:Nat→Prop) (x:Rp) (nd na nb:Nd) (w:World) (hz:Z3 w w t p root F x N1 N2 N3 N2) (ho:x.was≠none)
  (hn:NdOwn w N1 bn qn nd) (ha:NdOwn w N3 ba qa na) (hb:NdOwn w N2 bb qb nb) (hij:ii=j+1) (hka:na.keys.length=ka) (hl:ka=l+1) (hk:nd.keys[j]? =some k) (hv:nd.vals[j]? =some v) (hk1:na.keys[l]? =some k1) (hv1:na.vals[l]? =some v1)
  (fn:nd.Fit x.sz) (fa:na.Fit x.sz) (fb:nb.Fit x.sz) (hlf:na.kids.length=0↔nb.kids.length=0) (hc:nd.kids.length=nd.keys.length+1) (hm:nb.keys.length+1≤mostN x.sz)
  (ua:∃c,x.now[qa]? =some c∧c.used=true) (ub:∃c,x.now[qb]? =some c∧c.used=true) (un:∃c,x.now[qn]? =some c∧c.used=true) (eab:qa≠qb) (ean:qa≠qn) (ebn:qb≠qn) :
  Calls prog 109 #[.pointer (some ⟨t,0,none⟩),.pointer (some ⟨bn,0,none⟩),.int .i64 ii,.pointer (some ⟨ba,0,none⟩),.pointer (some ⟨bb,0,none⟩)] w fun e w'=>FlOut (fun j=>F j∨N1 j∨N2 j∨N3 j) w w' t p root bb qa qb qn F N2 x na.cutL (nb.addF k v (na.kids.drop na.keys.length)) ⟨nd.keys.set j k1,nd.vals.set j v1,nd.kids⟩ e:=by
 have hjl:j< nd.keys.length:=(List.getElem?_eq_some_iff.1 hk).1;have hjv:j< nd.vals.length:=(List.getElem?_eq_some_iff.1 hv).1;have hlv:l< na.vals.length:=(List.getElem?_eq_some_iff.1 hv1).1;have hsz:=hz.bt.gp.szs;have hm3:mostN x.sz≤300:=by unfold mostN;omega
 have l1:nd.keys.length≤300:=by have:=fn.most;omega
 have l2:na.keys.length≤300:=by have:=fa.most;omega
 have l3:nb.keys.length≤300:=by have:=fb.most;omega
 have l4:nb.vals.length≤300:=by rw[fb.vals];exact l3
 have l6:ka≤300:=by omega
 have l5:nb.kids.length≤301:=by rcases fb.kids with e | e<;>omega
 obtain⟨vka,vva,vca,hA⟩:=ha.v;obtain⟨vkb,vvb,vcb,hB⟩:=hb.v;obtain⟨vkn,vvn,vcn,hN⟩:=hn.v;have rka:=hA.rk;rw[iv_len,hka] at rka;have rva:=hA.rv;rw[iv_len,fa.vals,hka] at rva;have rca:=hA.rc;rw[nv_len] at rca;have rkb:=hB.rk;rw[iv_len] at rkb;have rvb:=hB.rv;rw[iv_len] at rvb;have rcb:=hB.rc;rw[nv_len] at rcb;have rkn:=hN.rk;rw[iv_len] at rkn
 have rvn:=hN.rv;rw[iv_len] at rvn;have rcn:=hN.rc;rw[nv_len] at rcn;obtain⟨Aka,cka,rfl,gcka⟩:=own_shape rka;obtain⟨Ava,cva,rfl,gcva⟩:=own_shape rva;obtain⟨Aca,cca,rfl,gcca⟩:=own_shape rca;obtain⟨Akb,ckb,rfl, -⟩:=own_shape rkb;obtain⟨Avb,cvb,rfl, -⟩:=own_shape rvb;obtain⟨Acb,ccb,rfl, -⟩:=own_shape rcb;obtain⟨Akn,ckn,rfl,gckn⟩:=own_shape rkn
 obtain⟨Avn,cvn,rfl,gcvn⟩:=own_shape rvn;obtain⟨Acn,ccn,rfl,gccn⟩:=own_shape rcn;obtain⟨gkn,rfl, -⟩:=own_block rkn (by omega);obtain⟨gvn,rfl, -⟩:=own_block rvn (by omega);obtain⟨gka,rfl, -⟩:=own_block rka (by omega);obtain⟨gva,rfl, -⟩:=own_block rva (by omega);have HA:=yH hA;have HB:=yH (FlB.mk hz hB hN);have HK:=yH (yA5 hk hv hk1 hv1 (yA hka fa.vals))
 have HX:=yH (yA5 ho fn fa fb (yA5 hlf hc hm ua (yA5 ub un eab ean (yA ebn hsz))));have HR:=yH (yA3 rka rva rca);have i1:IntKind.i64.wrap ((ii:Int) - 1)=(j:Int):=by rw[IntWalk.i64_in _ ⟨by omega,by omega⟩];omega
 have i2:IntKind.i64.wrap ((ka:Int) - 1)=(l:Int):=by rw[IntWalk.i64_in _ ⟨by omega,by omega⟩];omega
 have i3:(j:Int)< (nd.keys.length:Int):=by omega
 have i4:(j:Int)< (nd.vals.length:Int):=by omega
 have i5:(l:Int)< (ka:Int):=by omega
 have Hij:=yH (yA hij hl);have hlk:l< ka:=by omega
 have HL:=yH (yA4 hjl hjv hlv hlk);obtain⟨d9,f9,s9⟩:=hA.blk.facts;clear hz ho hn ha hb hij hka hk hv hk1 hv1 fn fa fb hlf hc hm ua ub un eab ean ebn hsz hm3 hA hB hN rka rva rca rkb rvb rcb rkn rvn rcn hl hjl hjv hlv l2;go_enter func109,ntmps109
 have hSX:∀W,Chg N2 w W→Blk W bb 73 #[.int .i64 qb,.slice Akb nb.keys.length ckb,.slice Avb nb.vals.length cvb,.slice Acb nb.kids.length ccb]→(fun w':World=>w'.cell? ⟨bb,1,none⟩=some (.slice Akb nb.keys.length ckb)∧w'.cell? ⟨bb,2,none⟩=some (.slice Avb nb.vals.length cvb)∧w'.cell? ⟨bn,1,none⟩=some (.slice (some ⟨gkn,0,none⟩) nd.keys.length ckn)∧w'.cell? ⟨bn,2,none⟩=some (.slice (some ⟨gvn,0,none⟩) nd.vals.length cvn)∧w'.cell? ⟨gkn,j,none⟩=some (.int .i64 k)∧w'.cell? ⟨gvn,j,none⟩=some (.int .i64 v)) W:=fun W hc hb=>by
  have hn:=HB.out.n.chg hc fun j hj e=>HB.out.z.d12 j hj e;exact⟨hb.cell 1,hb.cell 2,hn.blk.cell 1,hn.blk.cell 2,(hn.kcell rfl rfl HK.out.1).1,(hn.vcell rfl rfl HK.out.2.1).1⟩
 have hS2:=hSX w.drew ((Chg.refl N2 w).drew) HB.out.b.blk.drew;have HSX:=yH hSX;have hp1:1≤w.heap.size:=by have:=tab_pos HB.out.z.bt.gp.tab;omega
 have HP:=yH (yA hp1 HB.out.b.ne);clear hSX hp1;go_wp2_with fail
 clear d9 f9 s9
 go_cut [11] (fun s11 wx=>s11= .int .i64 l∧FlR w wx t p root F x N1 N2 N3 bb qb (nb.keys.length+1) (nb.vals.length+1) (insI nb.keys 0 k) (insI nb.vals 0 v) (.slice Acb nb.kids.length ccb) (nv nb.kids) bn qn (.slice (some ⟨gkn,0,none⟩) nd.keys.length ckn) (.slice (some ⟨gvn,0,none⟩) nd.vals.length cvn) (.slice Acn nd.kids.length ccn) (iv nd.keys) (iv nd.vals) (nv nd.kids))
 case first=>
  refine wp_region_y [32,35] (S:=fun w'=>w'.cell? ⟨bb,1,none⟩=some (.slice Akb nb.keys.length ckb)∧w'.cell? ⟨bb,2,none⟩=some (.slice Avb nb.vals.length cvb)∧w'.cell? ⟨bn,1,none⟩=some (.slice (some ⟨gkn,0,none⟩) nd.keys.length ckn)∧w'.cell? ⟨bn,2,none⟩=some (.slice (some ⟨gvn,0,none⟩) nd.vals.length cvn)∧w'.cell? ⟨gkn,j,none⟩=some (.int .i64 k)∧w'.cell? ⟨gvn,j,none⟩=some (.int .i64 v)) (by kernel_rfl) hS2 (fun hHeld=>?_)
  refine Todo.out (is:=[0,1,2,3,4,6,7,8,10,11,16,17,18,20,21,22,24,25]) ?_
  repeat
   refine tkQ (v:=?_) rfl (Or.inl ⟨by rfl,?_⟩) ?_;rotate_left
   ·(intro w hSw;go_simp)<;>with_reducible rfl
   (try simp only[Act.put,lZ])
  refine Todo.fin ?_;refine Todo.out (is:=[5,9,19,23]) ?_
  repeat
   refine tkY (v:=?_) rfl (Or.inl ⟨by rfl,?_⟩) hHeld ?_;rotate_left
   ·(intro w hSw;(try dsimp only at hSw);go_simp)<;>with_reducible rfl
   (try simp only[Act.put,lZ])
  refine Todo.fin ?_;refine Todo.out (is:=[12,26]) ?_
  repeat
   refine tkQ (v:=?_) rfl (Or.inl ⟨by rfl,?_⟩) ?_;rotate_left
   ·(intro w hSw;go_simp)<;>with_reducible rfl
   (try simp only[Act.put,lZ])
  refine Todo.fin ?_;refine Todo.out (is:=[13,27]) ?_
  repeat
   refine tkY (v:=?_) rfl (Or.inl ⟨by rfl,?_⟩) hHeld ?_;rotate_left
   ·(intro w hSw;(try dsimp only at hSw);go_simp)<;>with_reducible rfl
   (try simp only[Act.put,lZ])
  refine Todo.fin ?_;refine wpAnyY_ready (rs:=[14,28]) (by kernel_rfl) (by simp) ?_;refine AllReadyY.cons rfl (fun K hK=>?_) (AllReadyY.cons rfl (fun K hK=>?_) AllReadyY.nil)
  case' _=>
   go_simp;obtain⟨W6,hW6⟩:∃W,(w.alloc (.cells #[.int .i64 k] 3)).drew=W:=⟨_,rfl⟩;rw[hW6];have gW6:Grew w W6:=hW6▸((Chg.refl NoF w).alloc _).drew;have lW6:Blk W6 w.heap.size 3 #[.int .i64 k]:=hW6▸(Blk.new w _ _).drew;have hR6:=HB.out.b.rws.grew gW6;have hB6:=HB.out.b.blk.grew gW6;refine hK.out _ _ (fun _ _=>HSX.out W6 (gW6.chg) (hB6)) ?_;clear hK K
   (try simp only[Act.put,lZ])
   refine wpAnyY_ready (rs:=[15,28]) (by kernel_rfl) (by simp) ?_;refine AllReadyY.cons rfl (fun K hK=>?_) (AllReadyY.cons rfl (fun K hK=>?_) AllReadyY.nil)
   case' _=>
    go_simp;have hins:=insK (i:=0) (a:=k) hR6 (by omega) (Nat.zero_le _) lW6 (fun e=>by have:=HB.out.b.lt _ (HB.out.b.nk _ e);have:=gW6.size;omega) (by have:=HP.out.1;have:=gW6.size;omega);rw[show((0:Nat):Int)=0 from rfl] at hins;have HI:=yH hins;clear hins;refine HI.out.mono ?_;clear HI;rintro e w7 ⟨A7,c7,rfl,hR7,ha7⟩;have hB7:=hB6.chg ha7.chg HP.out.2.1
    have hC7:Chg N2 w w7:=Grew.then gW6 (ha7.chg.mono fun j _ e=>HB.out.b.nk j e);refine hK.out _ _ (fun _ _=>HSX.out w7 (hC7) (hB7)) ?_;clear hK K;(try simp only[Act.put,lZ])
    refine rdY (i:=28) (by kernel_rfl) rfl fun K hK=>?_;go_simp;obtain⟨W8,hW8⟩:∃W,w7.alloc (.cells #[.int .i64 v] 3)=W:=⟨_,rfl⟩;rw[hW8];have gW8:Grew w7 W8:=hW8▸(Chg.refl NoF w7).alloc _;have lW8:Blk W8 w7.heap.size 3 #[.int .i64 v]:=hW8▸Blk.new w7 _ _;have hR8:=hR7.grew gW8;have hB8:=hB7.grew gW8;refine hK.out _ _ (fun _ _=>HSX.out W8 (hC7.grew gW8) (hB8)) ?_
    clear hK K;(try simp only[Act.put,lZ])
    refine rdY (i:=29) (by kernel_rfl) rfl fun K hK=>?_;go_simp;have hins:=insV (i:=0) (a:=v) hR8 (by omega) (Nat.zero_le _) lW8 (fun e=>by have:=hR7.lt _ (hR7.nv _ e);omega) (by have:=HP.out.1;have:=ha7.chg.size;have:=gW6.size;have:=gW8.size;omega);rw[show((0:Nat):Int)=0 from rfl] at hins;have HI:=yH hins;clear hins;refine HI.out.mono ?_;clear HI
    rintro e w10 ⟨A10,c10,rfl,hR10,ha10⟩;have hB10:=hB8.chg ha10.chg HP.out.2.2.1;have hC10:Chg N2 w w10:=Chg.trans (hC7.grew gW8) (ha10.chg.mono fun j _ e=>HB.out.b.nv j e) fun _ _ e=>e;have hak:=ha7;have hav:=ha10;have z6:=gW6.size;have z7:=ha7.chg.size
   rotate_left
   case' _=>
    go_simp;obtain⟨W8,hW8⟩:∃W,W6.alloc (.cells #[.int .i64 v] 3)=W:=⟨_,rfl⟩;rw[hW8];have gW8:Grew W6 W8:=hW8▸(Chg.refl NoF W6).alloc _;have lW8:Blk W8 W6.heap.size 3 #[.int .i64 v]:=hW8▸Blk.new W6 _ _;have hR8:=hR6.grew gW8;have hB8:=hB6.grew gW8;refine hK.out _ _ (fun _ _=>HSX.out W8 ((Grew.trans gW6 gW8).chg) (hB8)) ?_;clear hK K;(try simp only[Act.put,lZ])
    refine rdY (i:=15) (by kernel_rfl) rfl fun K hK=>?_;go_simp;have hins:=insK (i:=0) (a:=k) hR8 (by omega) (Nat.zero_le _) (lW6.grew gW8) (fun e=>by have:=HB.out.b.lt _ (HB.out.b.nk _ e);have:=gW6.size;have:=gW8.size;omega) (by have:=HP.out.1;have:=gW6.size;have:=gW8.size;omega);rw[show((0:Nat):Int)=0 from rfl] at hins;have HI:=yH hins;clear hins
    refine HI.out.mono ?_;clear HI;rintro e w9 ⟨A7,c7,rfl,hR9,ha9⟩;have hB9:=hB8.chg ha9.chg HP.out.2.1;have hl9:=lW8.chg ha9.chg fun e=>by have:=HB.out.b.lt _ (HB.out.b.nk _ e);have:=gW6.size;omega
    have hC9:Chg N2 w w9:=Grew.then (Grew.trans gW6 gW8) (ha9.chg.mono fun j _ e=>HB.out.b.nk j e);refine hK.out _ _ (fun _ _=>HSX.out w9 (hC9) (hB9)) ?_;clear hK K;(try simp only[Act.put,lZ])
    refine rdY (i:=29) (by kernel_rfl) rfl fun K hK=>?_;go_simp;have hins:=insV (i:=0) (a:=v) hR9 (by omega) (Nat.zero_le _) hl9 (fun e=>by have:=HB.out.b.lt _ (HB.out.b.nv _ e);have:=gW6.size;omega) (by have:=HP.out.1;have:=ha9.chg.size;have:=gW6.size;have:=gW8.size;omega);rw[show((0:Nat):Int)=0 from rfl] at hins;have HI:=yH hins;clear hins
    refine HI.out.mono ?_;clear HI;rintro e w10 ⟨A10,c10,rfl,hR10,ha10⟩;have hB10:=hB9.chg ha10.chg HP.out.2.2.1;have hC10:Chg N2 w w10:=Chg.trans hC9 (ha10.chg.mono fun j _ e=>HB.out.b.nv j e) fun _ _ e=>e;have hak:=ha9;have hav:=ha10;have z6:=gW6.size;have z7:=ha9.chg.size
   rotate_left
  rotate_left 2
  case' _=>
   go_simp;obtain⟨W6,hW6⟩:∃W,(w.alloc (.cells #[.int .i64 v] 3)).drew=W:=⟨_,rfl⟩;rw[hW6];have gW6:Grew w W6:=hW6▸((Chg.refl NoF w).alloc _).drew;have lW6:Blk W6 w.heap.size 3 #[.int .i64 v]:=hW6▸(Blk.new w _ _).drew;have hR6:=HB.out.b.rws.grew gW6;have hB6:=HB.out.b.blk.grew gW6;refine hK.out _ _ (fun _ _=>HSX.out W6 (gW6.chg) (hB6)) ?_;clear hK K
   (try simp only[Act.put,lZ])
   refine rdY (i:=14) (by kernel_rfl) rfl fun K hK=>?_;go_simp;obtain⟨W8,hW8⟩:∃W,W6.alloc (.cells #[.int .i64 k] 3)=W:=⟨_,rfl⟩;rw[hW8];have gW8:Grew W6 W8:=hW8▸(Chg.refl NoF W6).alloc _;have lW8:Blk W8 W6.heap.size 3 #[.int .i64 k]:=hW8▸Blk.new W6 _ _;have hR8:=hR6.grew gW8;have hB8:=hB6.grew gW8
   refine hK.out _ _ (fun _ _=>HSX.out W8 ((Grew.trans gW6 gW8).chg) (hB8)) ?_;clear hK K;(try simp only[Act.put,lZ])
   refine rdY (i:=15) (by kernel_rfl) rfl fun K hK=>?_;go_simp;have hins:=insK (i:=0) (a:=k) hR8 (by omega) (Nat.zero_le _) lW8 (fun e=>by have:=HB.out.b.lt _ (HB.out.b.nk _ e);have:=gW6.size;have:=gW8.size;omega) (by have:=HP.out.1;have:=gW6.size;have:=gW8.size;omega);rw[show((0:Nat):Int)=0 from rfl] at hins;have HI:=yH hins;clear hins
   refine HI.out.mono ?_;clear HI;rintro e w9 ⟨A7,c7,rfl,hR9,ha9⟩;have hB9:=hB8.chg ha9.chg HP.out.2.1;have hl9:=(lW6.grew gW8).chg ha9.chg fun e=>by have:=HB.out.b.lt _ (HB.out.b.nk _ e);omega
   have hC9:Chg N2 w w9:=Grew.then (Grew.trans gW6 gW8) (ha9.chg.mono fun j _ e=>HB.out.b.nk j e);refine hK.out _ _ (fun _ _=>HSX.out w9 (hC9) (hB9)) ?_;clear hK K;(try simp only[Act.put,lZ])
   refine rdY (i:=29) (by kernel_rfl) rfl fun K hK=>?_;go_simp;have hins:=insV (i:=0) (a:=v) hR9 (by omega) (Nat.zero_le _) hl9 (fun e=>by have:=HB.out.b.lt _ (HB.out.b.nv _ e);omega) (by have:=HP.out.1;have:=ha9.chg.size;have:=gW6.size;have:=gW8.size;omega);rw[show((0:Nat):Int)=0 from rfl] at hins;have HI:=yH hins;clear hins;refine HI.out.mono ?_;clear HI
   rintro e w10 ⟨A10,c10,rfl,hR10,ha10⟩;have hB10:=hB9.chg ha10.chg HP.out.2.2.1;have hC10:Chg N2 w w10:=Chg.trans hC9 (ha10.chg.mono fun j _ e=>HB.out.b.nv j e) fun _ _ e=>e;have hak:=ha9;have hav:=ha10;have z6:=gW6.size;have z7:=ha9.chg.size
  rotate_left
  all_goals
   have z8:=gW8.size
   have hN10:∀j,((N2 j∨(Value.slice A7 (nb.keys.length+1) c7).ownBlock=some j)∨(Value.slice A10 (nb.vals.length+1) c10).ownBlock=some j)→N2 j∨w.heap.size≤j:=fun j hj=>by
    rcases hj with (e | e) | e
    ·exact .inl e
    ·exact(hak.at_ j e).imp (HB.out.b.nk j) fun e=>by omega
    ·exact(hav.at_ j e).imp (HB.out.b.nv j) fun e=>by omega
   have hS10:=HSX.out w10 hC10 hB10;obtain⟨d9,f9,s9⟩:=hB10.facts;refine hK.out _ _ (fun _ _=>hS10) ?_;clear hK K;(try simp only[Act.put,lZ])
   refine rdY (i:=30) (by kernel_rfl) rfl fun K hK=>?_;go_simp;refine hK.out _ _ (fun _ _=>hS10) ?_;clear hK K;(try simp only[Act.put,lZ])
   refine rdY (i:=31) (by kernel_rfl) rfl fun K hK=>?_;go_simp;refine hK.out _ _ (fun _ _=>hS10) ?_;clear hK K;(try simp only[Act.put,lZ])
   refine rdY (i:=32) (by kernel_rfl) rfl fun K hK=>?_;go_simp;obtain⟨W11,hW11⟩:∃W,w10.setCell ⟨bb,1,none⟩ (.slice A7 (nb.keys.length+1) c7)=W:=⟨_,rfl⟩;rw[hW11]
   have hb11:Blk W11 bb 73 #[.int .i64 qb,.slice A7 (nb.keys.length+1) c7,.slice Avb nb.vals.length cvb,.slice Acb nb.kids.length ccb]:=by
    have h9:=hB10.put 1 (.slice A7 (nb.keys.length+1) c7);rw[hW11] at h9;simpa using h9
   have hc11:Chg (fun j=>j=bb) w10 W11:=hW11▸(Chg.refl (fun j=>j=bb) w10).setCell (p:=⟨bb,1,none⟩) (fun _=>rfl) _;clear d9 f9 s9 hS10 hW11;obtain⟨d9,f9,s9⟩:=hb11.facts;refine hK.out _ _ (fun h=>by cases h) ?_;clear hK K;(try simp only[Act.put,lZ])
   refine rdY (i:=33) (by kernel_rfl) rfl fun K hK=>?_;go_simp;refine hK.out _ _ (fun _ h=>h) ?_;clear hK K;(try simp only[Act.put,lZ])
   refine rdY (i:=34) (by kernel_rfl) rfl fun K hK=>?_;go_simp;refine hK.out _ _ (fun _ h=>h) ?_;clear hK K;(try simp only[Act.put,lZ])
   refine rdY (i:=35) (by kernel_rfl) rfl fun K hK=>?_;go_simp;obtain⟨W12,hW12⟩:∃W,W11.setCell ⟨bb,2,none⟩ (.slice A10 (nb.vals.length+1) c10)=W:=⟨_,rfl⟩;rw[hW12]
   have hb12:Blk W12 bb 73 #[.int .i64 qb,.slice A7 (nb.keys.length+1) c7,.slice A10 (nb.vals.length+1) c10,.slice Acb nb.kids.length ccb]:=by
    have h9:=hb11.put 2 (.slice A10 (nb.vals.length+1) c10);rw[hW12] at h9;simpa using h9
   have hc12:Chg (fun j=>j=bb) w10 W12:=Chg.trans hc11 (hW12▸(Chg.refl (fun j=>j=bb) W11).setCell (p:=⟨bb,2,none⟩) (fun _=>rfl) _) fun _ _ e=>e;clear d9 f9 s9 hW12 hb11 hc11;refine hK.out _ _ (fun h=>by cases h) ?_;clear hK K;(try simp only[Act.put,lZ])
   refine wpAnyY_done (by kernel_rfl) ?_ _;go_wp2
   go_meet
   refine⟨rfl,A7,c7,A10,c10,_,HB.out.bset (M2':=fun j=>(N2 j∨(Value.slice A7 (nb.keys.length+1) c7).ownBlock=some j)∨(Value.slice A10 (nb.vals.length+1) c10).ownBlock=some j) (Chg.trans hC10 hc12 fun j _ e=>by subst e;exact HB.out.b.nb) ?_ hN10,Chg.trans hC10 hc12 fun j _ e=>by subst e;exact HB.out.b.nb⟩
   have:=(hR10.chg hc12 (fun g hg e=>own_blk_ne hR10.rk hB10 (by decide) (by rw[hg,e])) (fun g hg e=>own_blk_ne hR10.rv hB10 (by decide) (by rw[hg,e])) (fun g hg e=>own_blk_ne hR10.rc hB10 (by decide) (by rw[hg,e]))).ndv hb12 (.inl (.inl HB.out.b.nb));exact this
 case rest=>
  obtain⟨rfl,A7,c7,A10,c10,M2,hFB,hC⟩:=hcut;have hA:=HA.out.chg hC fun j hj e=>HB.out.z.d23 j e hj;have hkn:=hFB.n.kcell rfl rfl HK.out.1;have hvn:=hFB.n.vcell rfl rfl HK.out.2.1;have hka:=hA.kcell (yP4 HK.out).1 rfl HK.out.2.2.1;have hva:=hA.vcell ((yP4 HK.out).2.trans (yP4 HK.out).1) rfl HK.out.2.2.2.1;have hks:=hFB.n.kset (j:=j) rfl HL.out.1;have hap:=hFB.n.apart
  obtain⟨x1,x2⟩:=hks;obtain⟨x3',x4',x5⟩:=x2 k1 _ rfl;obtain⟨W4,hW4⟩:∃W,(wc.setCell ⟨gkn,j,none⟩ (.int .i64 k1)).drew=W:=⟨_,rfl⟩;have g4:Grew (wc.setCell ⟨gkn,j,none⟩ (.int .i64 k1)) W4:=hW4▸(Chg.refl NoF _).drew;have x3:=x3'.chg g4 fun _ _=>id;have x4:=x4'.grew g4;clear x3' x4' g4;obtain⟨y1,y2⟩:=x3.vset (j:=j) rfl HL.out.2.1
  have y3:=(x3.vcell rfl rfl HK.out.2.1).1;obtain⟨W5,hW5⟩:∃W,W4.setCell ⟨gvn,j,none⟩ (.int .i64 v1)=W:=⟨_,rfl⟩;obtain⟨y4,y5,y6⟩:=y2 v1 W5 hW5;have hc5:Chg N1 wc W5:=Chg.trans (x4.mono fun j _ e=>by subst e;exact x5) y5 fun j _ e=>by subst e;exact y6
  have hFB5:=hFB.nset hc5 y4;have hA5:=hA.chg hc5 fun j hj e=>HB.out.z.d13 j e hj;have hC5:Chg (fun j=>N1 j∨N2 j) w W5:=Chg.trans (hC.mono fun j _ e=> .inr e) hc5 fun j _ e=> .inl e;have HF5:=yH (yA3 hFB5 hA5 hC5)
  have hS3:(fun w':World=>w'.cell? ⟨bn,1,none⟩=some (.slice (some ⟨gkn,0,none⟩) nd.keys.length ckn)∧w'.cell? ⟨bn,2,none⟩=some (.slice (some ⟨gvn,0,none⟩) nd.vals.length cvn)∧w'.cell? ⟨ba,1,none⟩=some (.slice (some ⟨gka,0,none⟩) ka cka)∧w'.cell? ⟨ba,2,none⟩=some (.slice (some ⟨gva,0,none⟩) ka cva)∧w'.cell? ⟨gka,l,none⟩=some (.int .i64 k1)∧w'.cell? ⟨gva,l,none⟩=some (.int .i64 v1)) wc.drew:=⟨hFB.n.blk.drew.cell 1,hFB.n.blk.drew.cell 2,hA.blk.drew.cell 1,hA.blk.drew.cell 2,hka.1,hva.1⟩
  have HW:=yH (yA hW4 hW5);have hkn1:=hkn.1;have HY:=yH (yA4 y1 y3 x1 hkn1);clear hFB hC hA hkn hvn hka hva hap x1 x2 x3 x4 x5 y1 y2 y3 y4 y5 y6 hc5 hFB5 hA5 hC5 hW4 hW5 hkn1 hS2;go_wp2_with fail
  refine wp_region_y [27,29] (S:=fun w'=>w'.cell? ⟨bn,1,none⟩=some (.slice (some ⟨gkn,0,none⟩) nd.keys.length ckn)∧w'.cell? ⟨bn,2,none⟩=some (.slice (some ⟨gvn,0,none⟩) nd.vals.length cvn)∧w'.cell? ⟨ba,1,none⟩=some (.slice (some ⟨gka,0,none⟩) ka cka)∧w'.cell? ⟨ba,2,none⟩=some (.slice (some ⟨gva,0,none⟩) ka cva)∧w'.cell? ⟨gka,l,none⟩=some (.int .i64 k1)∧w'.cell? ⟨gva,l,none⟩=some (.int .i64 v1)) (by kernel_rfl) hS3 (fun hHeld=>?_)
  refine Todo.out (is:=[0,1,2,4,5,6,7,8,10,11,12,13,14,16,19,20,21,23]) ?_
  repeat
   refine tkQ (v:=?_) rfl (Or.inl ⟨by rfl,?_⟩) ?_;rotate_left
   ·(intro w hSw;go_simp)<;>with_reducible rfl
   (try simp only[Act.put,lZ])
  refine Todo.fin ?_;refine Todo.out (is:=[3,9,15,22]) ?_
  repeat
   refine tkY (v:=?_) rfl (Or.inl ⟨by rfl,?_⟩) hHeld ?_;rotate_left
   ·(intro w hSw;(try dsimp only at hSw);go_simp)<;>with_reducible rfl
   (try simp only[Act.put,lZ])
  refine Todo.fin ?_;refine Todo.out (is:=[17,24]) ?_
  repeat
   refine tkQ (v:=?_) rfl (Or.inl ⟨by rfl,?_⟩) ?_;rotate_left
   ·(intro w hSw;go_simp)<;>with_reducible rfl
   (try simp only[Act.put,lZ])
  refine Todo.fin ?_;refine Todo.out (is:=[18,25]) ?_
  repeat
   refine tkY (v:=?_) rfl (Or.inl ⟨by rfl,?_⟩) hHeld ?_;rotate_left
   ·(intro w hSw;(try dsimp only at hSw);go_simp)<;>with_reducible rfl
   (try simp only[Act.put,lZ])
  refine Todo.fin ?_;have HY1:=HY.out.2.2.1;have HY2:=HY.out.2.2.2;refine rdY (i:=26) (by kernel_rfl) rfl fun K hK=>?_;go_simp;refine hK.out _ _ (fun _ h=>h) ?_;clear hK K;(try simp only[Act.put,lZ])
  refine rdY (i:=27) (by kernel_rfl) rfl fun K hK=>?_;go_simp;rw[HW.out.1];clear HY1 HY2;have HY1:=HY.out.1;have HY2:=HY.out.2.1;refine hK.out _ _ (fun h=>by cases h) ?_;clear hK K;(try simp only[Act.put,lZ])
  refine rdY (i:=28) (by kernel_rfl) rfl fun K hK=>?_;go_simp;refine hK.out _ _ (fun _ h=>h) ?_;clear hK K;(try simp only[Act.put,lZ])
  refine rdY (i:=29) (by kernel_rfl) rfl fun K hK=>?_;go_simp;rw[HW.out.2];refine hK.out _ _ (fun h=>by cases h) ?_;clear hK K;(try simp only[Act.put,lZ])
  refine wpAnyY_done (by kernel_rfl) ?_ _;clear hHeld hS3 HY1 HY2 HY HW;obtain⟨W6,hW6⟩:∃W,((W5.setCell ⟨ba,1,none⟩ (.slice (some ⟨gka,0,none⟩) l cka)).setCell ⟨ba,2,none⟩ (.slice (some ⟨gva,0,none⟩) l cva)).drew=W:=⟨_,rfl⟩;obtain⟨hA6,hc6⟩:=HF5.out.2.1.cut2 (m:=l) (yP4 HK.out).1 ((yP4 HK.out).2.trans (yP4 HK.out).1) (Nat.le_of_lt hlk) hW6
  have hFB6:=HF5.out.1.aset (hc6.mono fun j _ e=>by subst e;exact HA.out.nb);have hC6:Chg (fun j=>N1 j∨N2 j∨N3 j) w W6:=Chg.trans (HF5.out.2.2.mono fun j _ e=>e.elim .inl fun e=> .inr (.inl e)) hc6 fun j _ e=>by subst e;exact .inr (.inr HA.out.nb)
  have hlf6:=leaf_any ba qa ⟨na.keys.take l,na.vals.take l,na.kids⟩ N3 W6 (NdV.own (nd:=⟨na.keys.take l,na.vals.take l,na.kids⟩) hA6).at;have H6:=yH (yA5 hlf6 hFB6 hA6 hC6 hW6);obtain⟨d9,f9,s9⟩:=HF5.out.2.1.blk.facts;have u1:(l:Int)≤(cka:Int):=by omega
  have u2:(l:Int)≤(cva:Int):=by omega
  clear hlf6 hFB6 hA6 hC6 hW6 hc6;go_wp2_with fail
  go_region
  rw[(yP4 H6.out)];clear d9 f9 s9 u1 u2;go_wp2_with fail
  refine H6.out.1.mono ?_;rintro e w7 ⟨rfl,rfl⟩;by_cases h0:na.kids.length=0
  case' _=>
   have hkc:na.kids=[]:=List.eq_nil_of_length_eq_zero h0;have hbc:nb.kids=[]:=List.eq_nil_of_length_eq_zero ((yP4 HX.out).1.1 h0);have t1:decide (na.kids.length=0)=true:=decide_eq_true h0
   have hAo:NdOwn W6 N3 ba qa na.cutL:=by
    have e:na.cutL=⟨na.keys.take l,na.vals.take l,na.kids⟩:=by
     have e1:=(yP4 HK.out).1;have e2:=Hij.out.2;simp only[Nd.cutL,hkc,List.take_nil,e1,show ka - 1=l by omega]
    rw[e];exact NdV.own (nd:=⟨na.keys.take l,na.vals.take l,na.kids⟩) H6.out.2.2.1
   have hBo:NdOwn W6 M2 bb qb (nb.addF k v (na.kids.drop na.keys.length)):=by
    refine NdV.own (nd:=nb.addF k v (na.kids.drop na.keys.length)) (vk:= .slice A7 (nb.keys.length+1) c7) (vv:= .slice A10 (nb.vals.length+1) c10) (vc:= .slice Acb nb.kids.length ccb) ?_;have e1:(nb.addF k v (na.kids.drop na.keys.length)).keys=insI nb.keys 0 k:=by simp[Nd.addF,insI]
    have e2:(nb.addF k v (na.kids.drop na.keys.length)).vals=insI nb.vals 0 v:=by simp[Nd.addF,insI]
    have e3:(nb.addF k v (na.kids.drop na.keys.length)).kids=nb.kids:=by simp[Nd.addF,hkc]
    rw[e1,e2,e3];exact H6.out.2.1.b
   have hNo:NdOwn W6 N1 bn qn ⟨nd.keys.set j k1,nd.vals.set j v1,nd.kids⟩:=NdV.own (nd:=⟨nd.keys.set j k1,nd.vals.set j v1,nd.kids⟩) H6.out.2.1.n
   have hfb:(nb.addF k v (na.kids.drop na.keys.length)).Fit x.sz:=Nd.addF_fit HX.out.2.2.2.1 (yP6 HX.out).1 (HX.out.2.1.ki _ (List.mem_of_getElem? HK.out.1)) (HX.out.2.1.vi _ (List.mem_of_getElem? HK.out.2.1)) (.inl ⟨hbc,by rw[hkc,List.drop_nil]⟩) (fun q hq=>by rw[hkc,List.drop_nil] at hq;cases hq)
   have hal:=fl_fin (W:=W6) (G:=fun j=>F j∨N1 j∨N2 j∨N3 j) (its:=[⟨ba,N3,qa,na.cutL⟩,⟨bb,_,qb,nb.addF k v (na.kids.drop na.keys.length)⟩,⟨bn,N1,qn,⟨nd.keys.set j k1,nd.vals.set j v1,nd.kids⟩⟩]) H6.out.2.1.z HX.out.1 hAo.at hBo hNo.at
    (Nd.cutL_fit HX.out.2.2.1 (by have:=(yP4 HK.out).1;omega)) hfb (Nd.set_fit HX.out.2.1 (HX.out.2.2.1.ki _ (List.mem_of_getElem? HK.out.2.2.1)) (HX.out.2.2.1.vi _ (List.mem_of_getElem? HK.out.2.2.2.1))) (yP6 HX.out).2.1 (yP8 HX.out).1 (yP8 HX.out).2.1 (yP10 HX.out).1 (yP10 HX.out).2.1 (yP12 HX.out).1 (.inl rfl) (fun j e=> .inr e) (fun j e=> .inl e) (yP12 HX.out).2.2.2.2.1
   clear hAo hBo hNo hfb hkc hbc;rw[show(pv [⟨ba,N3,qa,na.cutL⟩,⟨bb,M2,qb,nb.addF k v (na.kids.drop na.keys.length)⟩,⟨bn,N1,qn,⟨nd.keys.set j k1,nd.vals.set j v1,nd.kids⟩⟩])=[.pointer (some ⟨ba,0,none⟩),.pointer (some ⟨bb,0,none⟩),.pointer (some ⟨bn,0,none⟩)] from rfl] at hal;have HE:=yH hal;clear hal;go_wp2_with fail
  rotate_left
  case' _=>
   have t1:decide (na.kids.length=0)=false:=decide_eq_false h0;have t2:decide (na.kids=[])=false:=decide_eq_false fun e=>h0 (by rw[e];rfl);have hnkl:na.kids.length=ka+1:=by have e1:=(yP4 HK.out).1;rcases HX.out.2.2.1.kids with e | e<;>omega
   have hbkl:nb.kids.length=nb.keys.length+1:=by
    have e1:¬nb.kids.length=0:=fun e=>h0 ((yP4 HX.out).1.2 e);rcases HX.out.2.2.2.1.kids with e | e<;>omega
   obtain⟨cq,hcq⟩:∃c,na.kids[ka]? =some c:=⟨_,List.getElem?_eq_getElem (by omega)⟩
   have hdr:na.kids.drop na.keys.length=[cq]:=by
    obtain⟨q1,q2⟩:=List.getElem?_eq_some_iff.1 hcq;rw[(yP4 HK.out).1,List.drop_eq_getElem_cons q1,q2,List.drop_eq_nil_of_le (by omega)]
   obtain⟨gca,hgca, -⟩:=own_block HR.out.2.2 (show 0< na.kids.length by omega);subst hgca;have hA6:=H6.out.2.2.1;have hcc:=(hA6.ccell rfl rfl hcq).1
   have hS6:(fun w':World=>w'.cell? ⟨bb,3,none⟩=some (.slice Acb nb.kids.length ccb)∧w'.cell? ⟨ba,3,none⟩=some (.slice (some ⟨gca,0,none⟩) na.kids.length cca)∧w'.cell? ⟨gca,ka,none⟩=some (.int .i64 cq)) W6.drew:=⟨H6.out.2.1.b.blk.drew.cell 3,hA6.blk.drew.cell 3,hcc⟩;have H7:=yH (yA4 hnkl hbkl hcq hdr)
   have v1:(l:Int)+1=(ka:Int):=by have:=Hij.out.2;omega
   have v2:IntKind.i64.wrap ((l:Int)+1)=(ka:Int):=by rw[IntWalk.i64_in _ ⟨by omega,by omega⟩];exact v1
   have v3:(ka:Int)< (na.kids.length:Int):=by omega
   have v4:(ka:Int)≤(cca:Int):=by omega
   have H0:=yH h0;clear hnkl hbkl hcq hdr hA6 hcc h0 v1;go_wp2_with fail
   refine wp_region_y [17] (S:=fun w'=>w'.cell? ⟨bb,3,none⟩=some (.slice Acb nb.kids.length ccb)∧w'.cell? ⟨ba,3,none⟩=some (.slice (some ⟨gca,0,none⟩) na.kids.length cca)∧w'.cell? ⟨gca,ka,none⟩=some (.int .i64 cq)) (by kernel_rfl) hS6 (fun hHeld=>?_);refine Todo.out (is:=[0,1,2,3,5,6,7,9,10]) ?_
   repeat
    refine tkQ (v:=?_) rfl (Or.inl ⟨by rfl,?_⟩) ?_;rotate_left
    ·(intro w hSw;go_simp)<;>with_reducible rfl
    (try simp only[Act.put,lZ])
   refine Todo.fin ?_;refine Todo.out (is:=[4,8]) ?_
   repeat
    refine tkY (v:=?_) rfl (Or.inl ⟨by rfl,?_⟩) hHeld ?_;rotate_left
    ·(intro w hSw;(try dsimp only at hSw);go_simp)<;>with_reducible rfl
    (try simp only[Act.put,lZ])
   refine Todo.fin ?_;refine tkQ1 (i:=11) (v:=?_) rfl (Or.inl ⟨by rfl,?_⟩) ?_;rotate_left
   ·(intro w hSw;go_simp)<;>with_reducible rfl
   (try simp only[Act.put,lZ])
   refine tkY1 (i:=12) (v:=?_) rfl (Or.inl ⟨by rfl,?_⟩) hHeld ?_;rotate_left
   ·(intro w hSw;(try dsimp only at hSw);go_simp)<;>with_reducible rfl
   (try simp only[Act.put,lZ])
   refine rdY (i:=13) (by kernel_rfl) rfl fun K hK=>?_;go_simp;obtain⟨W8,hW8⟩:∃W,(W6.alloc (.cells #[.int .i64 cq] 3)).drew=W:=⟨_,rfl⟩;rw[hW8];have hg8:Grew W6 W8:=hW8▸((Chg.refl NoF W6).alloc _).drew;have hlit:Blk W8 W6.heap.size 3 #[.int .i64 cq]:=hW8▸(Blk.new W6 _ _).drew;have hb8:=H6.out.2.1.b.chg hg8 fun _ _=>id;have hA8:=H6.out.2.2.1.chg hg8 fun _ _=>id
   have rcb8:=hb8.rc;rw[nv_len] at rcb8;rw[nv_ivm] at rcb8;have hlc:(nb.kids.map Int.ofNat).length=nb.kids.length:=by simp
   have hins:=binsert_any 1 _ (nb.kids.map Int.ofNat) 0 W6.heap.size cq W8 (by rw[hlc];exact rcb8) (by omega) (Nat.zero_le _) hlit (fun e=>by have:=H6.out.2.1.b.lt _ (H6.out.2.1.b.nc _ e);omega) (by have:=HP.out.1;have:=H6.out.2.2.2.1.size;have:=hg8.size;omega);rw[show((0:Nat):Int)=0 from rfl] at hins
   have hS8:(fun w':World=>w'.cell? ⟨bb,3,none⟩=some (.slice Acb nb.kids.length ccb)∧w'.cell? ⟨ba,3,none⟩=some (.slice (some ⟨gca,0,none⟩) na.kids.length cca)∧w'.cell? ⟨gca,ka,none⟩=some (.int .i64 cq)) W8:=⟨hb8.blk.cell 3,hA8.blk.cell 3,(hA8.ccell rfl rfl H7.out.2.2.1).1⟩;have H8:=yH (yA5 hins hb8 hA8 hg8 hlc);clear hins hb8 hA8 hg8 hlit rcb8 hW8 hlc
   refine hK.out _ _ (fun _ _=>hS8) ?_;clear hK K;(try simp only[Act.put,lZ])
   refine rdY (i:=14) (by kernel_rfl) rfl fun K hK=>?_;go_simp;refine H8.out.1.mono ?_;rintro e w9 ⟨v9,rfl,ho9,ha9⟩;rw[(yP4 H8.out)] at ho9;obtain⟨A9,c9,rfl, -⟩:=own_shape ho9;have hl9:(iv (insI (nb.kids.map Int.ofNat) 0 (cq:Int))).length=nb.kids.length+1:=by rw[iv_len,insI_len _ (Nat.zero_le _),List.length_map]
   have hb9:=H8.out.2.1.blk.chg ha9.chg H8.out.2.1.ne.2.2;have hN2c:∀j,(Value.slice Acb nb.kids.length ccb).ownBlock=some j→M2 j:=H8.out.2.1.nc;have hc9:Chg M2 W6 w9:=Grew.then H8.out.2.2.2.1 (ha9.chg.mono fun j _ e=>hN2c j e);have hA9:=H6.out.2.2.1.chg hc9 fun j hj e=>H6.out.2.1.z.d23 j e hj
   have hS9:(fun w':World=>w'.cell? ⟨bb,3,none⟩=some (.slice Acb nb.kids.length ccb)∧w'.cell? ⟨ba,3,none⟩=some (.slice (some ⟨gca,0,none⟩) na.kids.length cca)∧w'.cell? ⟨gca,ka,none⟩=some (.int .i64 cq)) w9:=⟨hb9.cell 3,hA9.blk.cell 3,(hA9.ccell rfl rfl H7.out.2.2.1).1⟩;obtain⟨d9,f9,s9⟩:=hb9.facts;have H9:=yH (yA4 ho9 ha9 hl9 hc9)
   clear ho9 ha9 hl9 hb9 hN2c hc9 hA9;refine hK.out _ _ (fun _ _=>hS9) ?_;clear hK K;(try simp only[Act.put,lZ])
   refine rdY (i:=15) (by kernel_rfl) rfl fun K hK=>?_;go_simp;refine hK.out _ _ (fun _ h=>h) ?_;clear hK K;(try simp only[Act.put,lZ])
   refine rdY (i:=16) (by kernel_rfl) rfl fun K hK=>?_;go_simp;refine hK.out _ _ (fun _ h=>h) ?_;clear hK K;(try simp only[Act.put,lZ])
   refine rdY (i:=17) (by kernel_rfl) rfl fun K hK=>?_;go_simp;obtain⟨W10,hW10⟩:∃W,w9.setCell ⟨bb,3,none⟩ (.slice A9 (nb.kids.length+1) c9)=W:=⟨_,rfl⟩;rw[hW10];have hb10:=H8.out.2.1.setC H9.out.2.1 (by rw[H9.out.2.2.1];exact H9.out.1) hW10
   have hc10:Chg M2 W6 W10:=Chg.trans H9.out.2.2.2 (hW10▸(Chg.refl (fun j=>j=bb) w9).setCell (p:=⟨bb,3,none⟩) (fun _=>rfl) _) fun j _ e=>by subst e;exact H8.out.2.1.nb
   have z8:=H8.out.2.2.2.1.size
   have hFB10:=H6.out.2.1.bset hc10 hb10 (fun j hj=>by
    rcases hj with e | e
    ·exact .inl e
    ·exact(H9.out.2.1.at_ j e).imp (H8.out.2.1.nc j) fun e=>by omega)
   have hA10:=H6.out.2.2.1.chg hc10 fun j hj e=>H6.out.2.1.z.d23 j e hj;obtain⟨M3,hM3⟩:∃N:Nat→Prop,(fun j=>M2 j∨(Value.slice A9 (nb.kids.length+1) c9).ownBlock=some j)=N:=⟨_,rfl⟩;rw[hM3] at hFB10;refine hK.out _ _ (fun h=>by cases h) ?_;clear hK K;(try simp only[Act.put,lZ])
   refine wpAnyY_done (by kernel_rfl) ?_ _;obtain⟨W11,hW11⟩:∃W,W10.setCell ⟨ba,3,none⟩ (.slice (some ⟨gca,0,none⟩) ka cca)=W:=⟨_,rfl⟩;obtain⟨hA11,hc11⟩:=hA10.cutC (m:=ka) rfl (by omega) hW11;have hFB11:=hFB10.aset (hc11.mono fun j _ e=>by subst e;exact HA.out.nb);clear hHeld hS6 hS8 hS9 d9 f9 s9;obtain⟨d9,f9,s9⟩:=hA10.blk.facts
   have hz11:W11.heap.size=W10.heap.size:=by subst hW11;simp
   have H11:=yH (yA4 hFB11 hA11 hW11 hz11);clear hb10 hc10 z8 hFB10 hA10 hM3 hW10 hA11 hc11 hFB11 hW11 hz11 H8 H9
   have hAo:NdOwn W11 N3 ba qa na.cutL:=by
    have e:na.cutL=⟨na.keys.take l,na.vals.take l,na.kids.take ka⟩:=by
     have e1:=(yP4 HK.out).1;have e2:=Hij.out.2;simp only[Nd.cutL,e1,show ka - 1=l by omega]
    rw[e];exact NdV.own (nd:=⟨na.keys.take l,na.vals.take l,na.kids.take ka⟩) H11.out.2.1
   have hBo:NdOwn W11 M3 bb qb (nb.addF k v (na.kids.drop na.keys.length)):=by
    refine NdV.own (nd:=nb.addF k v (na.kids.drop na.keys.length)) (vk:= .slice A7 (nb.keys.length+1) c7) (vv:= .slice A10 (nb.vals.length+1) c10) (vc:= .slice A9 (nb.kids.length+1) c9) ?_;have e1:(nb.addF k v (na.kids.drop na.keys.length)).keys=insI nb.keys 0 k:=by simp[Nd.addF,insI]
    have e2:(nb.addF k v (na.kids.drop na.keys.length)).vals=insI nb.vals 0 v:=by simp[Nd.addF,insI]
    have e3:nv (nb.addF k v (na.kids.drop na.keys.length)).kids=iv (insI (nb.kids.map Int.ofNat) 0 (cq:Int)):=by
     rw[nv_ivm];simp[Nd.addF,H7.out.2.2.2,insI]
    rw[e1,e2,e3];exact H11.out.1.b
   have hNo:NdOwn W11 N1 bn qn ⟨nd.keys.set j k1,nd.vals.set j v1,nd.kids⟩:=NdV.own (nd:=⟨nd.keys.set j k1,nd.vals.set j v1,nd.kids⟩) H11.out.1.n
   have hfb:(nb.addF k v (na.kids.drop na.keys.length)).Fit x.sz:=Nd.addF_fit HX.out.2.2.2.1 (yP6 HX.out).1 (HX.out.2.1.ki _ (List.mem_of_getElem? HK.out.1)) (HX.out.2.1.vi _ (List.mem_of_getElem? HK.out.2.1)) (.inr ⟨H7.out.2.1,by rw[H7.out.2.2.2];rfl⟩) (fun q hq=>HX.out.2.2.1.ci q (List.mem_of_mem_drop hq))
   have hal:=fl_fin (W:=W11) (G:=fun j=>F j∨N1 j∨N2 j∨N3 j) (its:=[⟨ba,N3,qa,na.cutL⟩,⟨bb,_,qb,nb.addF k v (na.kids.drop na.keys.length)⟩,⟨bn,N1,qn,⟨nd.keys.set j k1,nd.vals.set j v1,nd.kids⟩⟩]) H11.out.1.z HX.out.1 hAo.at hBo hNo.at
    (Nd.cutL_fit HX.out.2.2.1 (by have:=(yP4 HK.out).1;omega)) hfb (Nd.set_fit HX.out.2.1 (HX.out.2.2.1.ki _ (List.mem_of_getElem? HK.out.2.2.1)) (HX.out.2.2.1.vi _ (List.mem_of_getElem? HK.out.2.2.2.1))) (yP6 HX.out).2.1 (yP8 HX.out).1 (yP8 HX.out).2.1 (yP10 HX.out).1 (yP10 HX.out).2.1 (yP12 HX.out).1 (.inl rfl) (fun j e=> .inr e) (fun j e=> .inl e) (yP12 HX.out).2.2.2.2.1
   clear hAo hBo hNo hfb;rw[show(pv [⟨ba,N3,qa,na.cutL⟩,⟨bb,M3,qb,nb.addF k v (na.kids.drop na.keys.length)⟩,⟨bn,N1,qn,⟨nd.keys.set j k1,nd.vals.set j v1,nd.kids⟩⟩])=[.pointer (some ⟨ba,0,none⟩),.pointer (some ⟨bb,0,none⟩),.pointer (some ⟨bn,0,none⟩)] from rfl,H11.out.2.2.2] at hal;have HE:=yH hal;clear hal;go_wp2_with fail
   rw[H11.out.2.2.1];clear d9 f9 s9
  rotate_left
  all_goals
   refine HE.out.mono ?_;rintro e w' (⟨rfl,hr⟩ | ⟨rfl,hr⟩)
   ·have HO:=yH hr
    clear hr;go_wp2_with fail
    go_ret
    exact .inl ⟨rfl,HO.out⟩
   ·have HO:=yH hr
    clear hr;go_wp2_with fail
    go_ret
    exact .inr ⟨rfl,HO.out⟩
end
section
open Go.RowKit Go.Maps
theorem app1 {W:World} {base g:Nat} {v:Value} {l:List Int} {a:Int} (ho:W.ownsRow base 3 1 v l.length (iv l)) (hl:l.length≤1000) (hg:Blk W g 3 #[.int .i64 a]) (hb:base≤W.heap.size) :
  ∃A c w',(Builtin.append_ #[22,22] 22 #[v,.slice (some ⟨g,0,none⟩) 1 1]).run prog W= .ok (.slice A (l.length+1) c) w'∧w'.ownsRow base 3 1 (.slice A (l.length+1) c) (l.length+1) (iv (l++[a]))∧Ap W w' v (.slice A (l.length+1) c):=by
 obtain⟨i0,hi0,hz0,hz1,hz2⟩:=info_parts i64Info_;obtain⟨v1,w1,hr,h1,h2,_,h4⟩:=run_append_own_at (P:=prog) W base 22 22 3 i0 _ 1 8 underlying22 hi0 hz0 hz1 hz2 rfl (by omega) v l.length (iv l) ho ⟨g,0,none⟩ 1 1 [.int .i64 a] rfl (fun j u hu=>by rw[Addr.add_lit];exact one_at hg j u hu) (by simp[Value.oneCell']) (by simp only[maxLen];omega) (by omega) hb
 obtain⟨A,c,rfl, -⟩:=own_shape h1;refine⟨A,c,w1,hr,?_,(Chg.refl _ _).grown h2 fun k hk _=>hk,fun j hj=>h4.elim (fun e=> .inl (e▸hj)) fun e=> .inr ?_⟩
 ·rw[show iv (l++[a])=iv l++[.int .i64 a] by simp[iv]]
  exact h1
 ·rw[e] at hj
  cases hj
  exact Nat.le_refl _
section
variable {W W':World} {N:Nat→Prop} {vk vv vc:Value} {l:List Int} {lk lv lc:List Value} {g:Nat} {a:Int}
theorem appK (h:Rws W N vk vv vc (iv l) lv lc) (hl:l.length≤1000) (hg:Blk W g 3 #[.int .i64 a]) (hp:1≤W.heap.size) :
  ∃A c w',(Builtin.append_ #[22,22] 22 #[vk,.slice (some ⟨g,0,none⟩) 1 1]).run prog W= .ok (.slice A (l.length+1) c) w'∧Rws w' (fun j=>N j∨(Value.slice A (l.length+1) c).ownBlock=some j) (.slice A (l.length+1) c) vv vc (iv (l++[a])) lv lc∧Ap W w' vk (.slice A (l.length+1) c):=by
 have hk:=h.rk;rw[iv_len] at hk;obtain⟨A,c,w',h1,h2,h3⟩:=app1 hk hl hg hp;exact⟨A,c,w',h1,h.setK h3 (by rw[iv_len,List.length_append];exact h2),h3⟩
theorem appV (h:Rws W N vk vv vc lk (iv l) lc) (hl:l.length≤1000) (hg:Blk W g 3 #[.int .i64 a]) (hp:1≤W.heap.size) :
  ∃A c w',(Builtin.append_ #[22,22] 22 #[vv,.slice (some ⟨g,0,none⟩) 1 1]).run prog W= .ok (.slice A (l.length+1) c) w'∧Rws w' (fun j=>N j∨(Value.slice A (l.length+1) c).ownBlock=some j) vk (.slice A (l.length+1) c) vc lk (iv (l++[a])) lc∧Ap W w' vv (.slice A (l.length+1) c):=by
 have hk:=h.rv;rw[iv_len] at hk;obtain⟨A,c,w',h1,h2,h3⟩:=app1 hk hl hg hp;exact⟨A,c,w',h1,h.setV h3 (by rw[iv_len,List.length_append];exact h2),h3⟩
theorem NdV.drop2 {b q g1 g2 c1 c2 n m:Nat} {A3:Option Addr} {c3:Nat} {lk lv:List Int} {lc:List Nat} (h:NdV W N b q (.slice (some ⟨g1,0,none⟩) n c1) (.slice (some ⟨g2,0,none⟩) n c2) (.slice A3 lc.length c3) (iv lk) (iv lv) (Go.Proofs.YtpkkcicaeldodaaGreatDoor.nv lc)) (h1:lk.length=n) (h2:lv.length=n) (hm:n=m+1)
  (hW:((W.setCell ⟨b,1,none⟩ (.slice (some ⟨g1,1,none⟩) m (c1 - 1))).setCell ⟨b,2,none⟩ (.slice (some ⟨g2,1,none⟩) m (c2 - 1))).drew=W') :
  NdRd W' N b q ⟨lk.drop 1,lv.drop 1,lc⟩ (some ⟨g1,1,none⟩) (c1 - 1) (some ⟨g2,1,none⟩) (c2 - 1) A3 c3∧Chg (fun j=>j=b) W W'∧Blk W' b 73 #[.int .i64 q,.slice (some ⟨g1,1,none⟩) m (c1 - 1),.slice (some ⟨g2,1,none⟩) m (c2 - 1),.slice A3 lc.length c3]:=by
 have hc:Chg (fun j=>j=b) W W':=hW▸(((Chg.refl (fun j=>j=b) W).setCell (p:=⟨b,1,none⟩) (fun _=>rfl) _).setCell (p:=⟨b,2,none⟩) (fun _=>rfl) _).drew;obtain⟨e1,e2,e3⟩:=h.ne;have r1:=h.rk;rw[iv_len,h1] at r1;have r2:=h.rv;rw[iv_len,h2] at r2;have r3:=h.rc;rw[nv_len] at r3;have l1:(lk.drop 1).length=m:=by rw[List.length_drop];omega
 have l2:(lv.drop 1).length=m:=by rw[List.length_drop];omega
 have hB:Blk W' b 73 #[.int .i64 q,.slice (some ⟨g1,1,none⟩) m (c1 - 1),.slice (some ⟨g2,1,none⟩) m (c2 - 1),.slice A3 lc.length c3]:=by
  subst hW;have:=((h.blk.put 1 (.slice (some ⟨g1,1,none⟩) m (c1 - 1))).put 2 (.slice (some ⟨g2,1,none⟩) m (c2 - 1))).drew;simpa using this
 have s1:=((Sl.of_own r1).chg hc fun a ha e=>by cases ha;exact e1 (by rw[own_blockOf r1 _ rfl,e])).cut 1 m (by omega);have s2:=((Sl.of_own r2).chg hc fun a ha e=>by cases ha;exact e2 (by rw[own_blockOf r2 _ rfl,e])).cut 1 m (by omega);have s3:=(Sl.of_own r3).chg hc fun a ha e=>e3 (by rw[own_blockOf r3 a ha,e])
 rw[Nat.zero_add,←iv_drop,List.take_of_length_le (by rw[iv_len];omega)] at s1 s2;refine⟨⟨?_,?_,?_,s3,h.nb,fun a ha=>by cases ha;exact h.nk _ (own_blockOf r1 ⟨g1,0,none⟩ rfl),fun a ha=>by cases ha;exact h.nv _ (own_blockOf r2 ⟨g2,0,none⟩ rfl),fun a ha=>h.nc _ (own_blockOf r3 a ha)⟩,hc,hB⟩
 ·simp only[l1,l2];exact hB
 ·simp only[l1];exact s1
 ·simp only[l2];exact s2
theorem NdRd.dropC {b q g c m:Nat} {nd:Nd} {Ak Av:Option Addr} {ck cv:Nat} (h:NdRd W N b q nd Ak ck Av cv (some ⟨g,0,none⟩) c) (hm:nd.kids.length=m+1) (hg:g≠b) (hk:∀a,Ak=some a→a.block≠b) (hv:∀a,Av=some a→a.block≠b)
  (hW:W.setCell ⟨b,3,none⟩ (.slice (some ⟨g,1,none⟩) m (c - 1))=W'):NdRd W' N b q ⟨nd.keys,nd.vals,nd.kids.drop 1⟩ Ak ck Av cv (some ⟨g,1,none⟩) (c - 1)∧Chg (fun j=>j=b) W W':=by
 obtain⟨h1,h2,h3,h4,h5,h6,h7,h8⟩:=h;have hc:Chg (fun j=>j=b) W W':=hW▸(Chg.refl (fun j=>j=b) W).setCell (p:=⟨b,3,none⟩) (fun _=>rfl) _;have l1:(nd.kids.drop 1).length=m:=by rw[List.length_drop];omega
 have s3:=(h4.chg hc fun a ha e=>by cases ha;exact hg e).cut 1 m (by omega);rw[Nat.zero_add,←nv_drop,List.take_of_length_le (by rw[nv_len];omega)] at s3;refine⟨⟨?_,h2.chg hc hk,h3.chg hc hv,?_,h5,h6,h7,fun a ha=>by cases ha;exact h8 ⟨g,0,none⟩ rfl⟩,hc⟩
 ·subst hW
  have:=h1.put 3 (.slice (some ⟨g,1,none⟩) m (c - 1));simp only[l1];simpa using this
 ·simp only[l1];exact s3
theorem NdRd.at {b q:Nat} {nd:Nd} {Ak Av Ac:Option Addr} {ck cv cc:Nat} (h:NdRd W N b q nd Ak ck Av cv Ac cc) (hl:∀j,N j→j< W.heap.size):NdAt W N b q nd:=by
 obtain⟨h1,h2,h3,h4,h5,h6,h7,h8⟩:=h;exact⟨Ak,ck,Av,cv,Ac,cc,h1,h2,h3,h4,h5,h6,h7,h8,hl⟩
theorem NdRd.ccell {b q g c:Nat} {nd:Nd} {Ak Av:Option Addr} {ck cv:Nat} (h:NdRd W N b q nd Ak ck Av cv (some ⟨g,0,none⟩) c) {a:Nat} (ha:nd.kids[0]? =some a):W.cell? ⟨g,0,none⟩=some (.int .i64 a):=by
 obtain⟨b',o,e, -,hx⟩:=h.2.2.2.1.2 (by have:=(List.getElem?_eq_some_iff.1 ha).1;omega)
 cases e
 exact hx 0 (.int .i64 a) (by simp[Go.Proofs.YtpkkcicaeldodaaGreatDoor.nv,ha])
end
end
section
def KP (R:Nat→List KV→List Nat→Prop):List Nat→List Nat→Prop
 | [],P=>P=[]
 | c :: cs,P=>∃M Q P',R c M Q∧P=Q++P'∧KP R cs P'
theorem KP.mono {R R':Nat→List KV→List Nat→Prop} (h:∀c M Q,R c M Q→R' c M Q):∀ {ks P},KP R ks P→KP R' ks P
 | [],_,g=>g
 | _ :: _,_,⟨M,Q,P',g1,g2,g3⟩=>⟨M,Q,P',h _ _ _ g1,g2,KP.mono h g3⟩
theorem Fr.kp {R:Nat→List KV→List Nat→Prop} {ks:List Nat} {kv L:List KV} {P:List Nat} (h:Fr R ks kv L P):KP R ks P:=by
 induction h with
 | one h=>exact⟨_,_,[],h,by simp,rfl⟩
 | cons h _ ih=>exact⟨_,_,_,h,rfl,ih⟩
theorem Tr.kp {rd:Nat→Option Nd} {h d q:Nat} {L:List KV} {P:List Nat} (t:Tr rd h d q L P):∃nd P',rd q=some nd∧P=q :: P'∧KP (fun c M Q=>∃d',d=d'+1∧Tr rd h d' c M Q) nd.kids P':=by
 cases d with
 | zero=>
  obtain⟨nd,h1,h2, -, -, -,rfl⟩:=t
  exact⟨nd,[],h1,rfl,by rw[h2];rfl⟩
 | succ d=>
  obtain⟨nd,P',h1, -, -, -,h5,rfl⟩:=t;exact⟨nd,P',h1,rfl,h5.kp.mono fun c M Q g=>⟨d,rfl,g.1⟩⟩
theorem KP.step {R:Nat→List KV→List Nat→Prop} {ks P:List Nat} {i:Nat} (h:KP R (ks.drop i) P) (hi:i< ks.length):∃c M Q P',ks[i]? =some c∧R c M Q∧P=Q++P'∧KP R (ks.drop (i+1)) P':=by
 rw[List.drop_eq_getElem_cons hi] at h;obtain⟨M,Q,P',g1,g2,g3⟩:=h;exact⟨ks[i],M,Q,P',List.getElem?_eq_getElem hi,g1,g2,g3⟩
def PgOut (w w':World) (t p root base:Nat) (F:Nat→Prop) (x:Rp) (v:Value) (S:List Nat) (e:Ending):Prop:=
 ∃A c,e= .returned (.slice A S.length c)∧BT w' t p root F x∧w'.ownsRow base 3 1 (.slice A S.length c) S.length (iv (S.map fun n:Nat=>(n:Int)))∧
  Chg (fun j=>F j∨v.ownBlock=some j) w w'∧∀j,(Value.slice A S.length c).ownBlock=some j→v.ownBlock=some j∨w.heap.size≤j
end
section
open Go.RowKit Go.Maps
theorem app_pg {w:World} {ops:Array Oper} {rest:List Oper} {o:Oper} {a:Act} {Q:Exit→Act→World→Prop} (hgd:o.guard=none) (s x:Operand)
  (ho:o.op= .call { callee:= .builtin .append,args:= #[s,x],argTypes:= #[22,22] }) (base:Nat) (v:Value) (n:Nat) (xs:List Value) (hs:a.eval s=v) (hown:w.ownsRow base 3 1 v n xs)
  (e1:Int) (hx:a.eval x= .slice (some ⟨w.heap.size,0,none⟩) 1 1) (hn:n≤1000000) (hb:base≤w.heap.size)
  (h:∀v' w',w'.ownsRow base 3 1 v' (n+1) (xs++[.int .i64 e1])→Ap w w' v v'→wpList prog ops Q rest (a.put o.dst v') w') :
  wpList prog ops Q (o :: rest) a (w.alloc (.cells #[.int .i64 e1] 3)):=by
 obtain⟨i0,hi0,hz0,hz1,hz2⟩:=info_parts i64Info_
 refine wpList_append_own_at _ hgd s x 22 ho base 3 i0 _ 1 8 underlying22 hi0 hz0 hz1 hz2 rfl (by omega) v n xs hs (own_grew hown ((Chg.refl _ _).alloc _)) ⟨w.heap.size,0,none⟩ 1 1 [.int .i64 e1] hx rfl (World.news_of_block (Blk.new w 3 #[.int .i64 e1])) (by simp[Value.oneCell']) (by simp only[maxLen];omega) (by omega) (by simp;omega) ?_;intro v1 w1 h1 h2 _ h4
 exact h v1 w1 h1 ((Ap.refl _ _).push ((Chg.refl _ _).alloc _) h2 h4)
structure PgJ (w w4 W:World) (t p root:Nat) (N F:Nat→Prop) (x:Rp) (v:Value) (S:List Nat) (A:Option Addr) (c base:Nat):Prop where
 bt:BT W t p root F x
 row:W.ownsRow base 3 1 (.slice A S.length c) S.length (iv (S.map fun n:Nat=>(n:Int)))
 chg:Chg (fun j=>F j∨v.ownBlock=some j) w W
 at_:∀j,(Value.slice A S.length c).ownBlock=some j→v.ownBlock=some j∨w.heap.size≤j
 nn:∀j,(Value.slice A S.length c).ownBlock=some j→¬N j
 keep:Chg (fun j=>¬N j) w4 W
theorem bpages1_any (t p root base:Nat) (F:Nat→Prop) (x:Rp) (hFb:∀j,F j→j< base) (htb:t< base) :
  ∀ (d q:Nat) (M:List KV) (PM S:List Nat) (A:Option Addr) (c deep:Nat) (w:World),Tr x.nd (halfN x.sz) d q M PM→((S++PM).Nodup→S.length+PM.length≤900→deep+d≤40→BT w t p root F x→base≤w.heap.size→
   w.ownsRow base 3 1 (.slice A S.length c) S.length (iv (S.map fun n:Nat=>(n:Int)))→
   Calls prog 52 #[.pointer (some ⟨t,0,none⟩),.slice A S.length c,.int .i64 q,.int .i64 deep] w fun e w'=>PgOut w w' t p root base F x (.slice A S.length c) (S++PM) e):=by
 intro d
 induction d using Nat.strongRecOn with
 | ind d ih=>
 intro q M PM S A c deep w ht hnp hlen hdp hb hbase ho;obtain⟨nd,P',hn,rfl,hkp⟩:=ht.kp;obtain⟨cp,cp1,cp2,cp3⟩:=Rp.nd_some hn;have hld:=bload_any t p root q F x cp nd w hb cp1 cp2 cp3;have hqS:q∉S:=fun e=>(List.nodup_append.1 hnp).2.2 q e q (List.mem_cons_self ..) rfl;have hSl:S.length≤900:=by omega
 have hkb:nd.kids.length≤1000:=by
  have h0:=(hb.gp.fit hn).1.most;have h2:=hb.gp.szs;have h3:=(hb.gp.fit hn).1.kids;unfold mostN at h0;rcases h3 with h3 | h3
  ·first | omega | (rw[h3];simp)
  ·omega
 have H:=yH (yA5 hld hkp hnp hlen (yA4 ho hqS hn hbase));have IH:=yH ih;have hdp1:deep≤40:=by omega
 have t0:decide ((40:Int)< (deep:Int))=false:=decide_eq_false (by omega);clear ih ht hkp hnp hlen hb ho hqS hn hld cp1 cp2 cp3 hbase;go_enter func52,ntmps52
 go_wp2_with fail
 refine H.out.1.mono ?_;rintro e w2 ⟨b,N,rfl,hn2,hN2,hbt2,hc2⟩
 have ho2:=own_chg (yP4 H.out).1 hc2 fun g hg e=>by
  obtain⟨a,rfl,rfl⟩:=own_at hg;have:=(own_rng (yP4 H.out).1 a rfl).1;have:=hFb _ e;omega
 have hct:=bcontains_no (S.map fun n:Nat=>(n:Int)) q A c w2 (by rw[List.length_map];exact Sl.of_own ho2) (by simp;omega) (fun e=>by obtain⟨n,h1,h2⟩:=List.mem_map.1 e;exact(yP4 H.out).2.1 (by rwa[show n=q by omega] at h1));rw[List.length_map] at hct;have H2:=yH (yA5 hct ho2 hn2 hN2 (yA hbt2 hc2));clear hct ho2 hn2 hN2 hbt2 hc2;go_wp2_with fail
 refine H2.out.1.mono ?_;rintro e w3 ⟨rfl,rfl⟩
 go_wp2_with (
  at_builtin
  refine app_pg rfl _ _ rfl base _ S.length _ rfl H2.out.2.1 q rfl (by omega) (Nat.le_trans (yP6 H.out).2 (yP4 H2.out).2.size) ?_;intro v1 w4 hown1 hap1;have H4:=yH (yA hown1 hap1);clear hown1 hap1;obtain⟨A4,c4,rfl, -⟩:=own_shape H4.out.1;have hrg:=own_rng (yP4 H.out).1
  have hJ0:PgJ w w4 w4 t p root N F x (.slice A S.length c) (S++[q]) A4 c4 base:=by
   have hl4:(S++[q]).length=S.length+1:=by simp
   have hown:∀j,(Value.slice A S.length c).ownBlock=some j→base≤j∧j< w.heap.size:=fun j hj=>by
    obtain⟨a,rfl,rfl⟩:=own_at hj;exact hrg a rfl
   refine⟨(yP4 H2.out).1.chg H4.out.2.chg (fun j hj e=>by have:=hFb j hj;have:=hown j e;omega) (fun e=>by have:=hown _ e;omega) (fun e=>by have:=hown _ e;omega),?_,Chg.trans ((yP4 H2.out).2.mono fun j _ e=> .inl e) H4.out.2.chg fun j _ e=> .inr e,?_,?_,Chg.refl _ _⟩
   ·rw[hl4,List.map_append]
    have:=H4.out.1;simpa [iv] using this
   ·rw[hl4]
    exact fun j hj=>(H4.out.2.at_ j hj).imp id fun e=>Nat.le_trans (yP4 H2.out).2.size e
   ·rw[hl4]
    exact fun j hj e=>(H4.out.2.at_ j hj).elim (fun g=>by have:=H2.out.2.2.2.1 j e;have:=hown j g;omega) fun g=>by have:=H2.out.2.2.1.at.lt j e;omega
  have hn4:NdOwn w4 N b q nd:=H2.out.2.2.1.chg H4.out.2.chg fun j hj e=>by
   have:=H2.out.2.2.2.1 j hj;obtain⟨a,rfl,rfl⟩:=own_at e;have:=(hrg a rfl).2;omega
  obtain⟨Ak,ck,Av,cv,Ac,cc,bB,sK,sV,sC,nb,nK,nV,nC, -⟩:=hn4.at;have HJ0:=yH (yA3 hJ0 sC nC);obtain⟨c0,f0,s0⟩:=bB.facts;clear hn4 hJ0 hrg bB sK sV sC nK nV nC)
 go_loopg [1,40] (nd.kids.length) (fun n vv iv wr=>∃ (i:Nat) (S' P2:List Nat) (A':Option Addr) (c':Nat),n=nd.kids.length - i∧i≤nd.kids.length∧vv= .slice A' S'.length c'∧iv= .int .i64 i∧KP (fun c M Q=>∃d',d=d'+1∧Tr x.nd (halfN x.sz) d' c M Q) (nd.kids.drop i) P2∧S++q :: P'=S'++P2∧PgJ w w4 wr t p root N F x (.slice A S.length c) S' A' c' base)
 case atStart=>exact⟨0,S++[q],P',A4,c4,by simp,Nat.zero_le _,by simp,rfl,H.out.2.1,by simp,HJ0.out.1⟩
 case round=>
  obtain⟨i,S',P2,A',c',rfl,hil,rfl,rfl,hk,hsp,hJ⟩:=hrel;by_cases hlt:i< nd.kids.length
  ·obtain⟨k,M1,Q1,P3,hki,⟨d',rfl,hT⟩,rfl,hk2⟩:=hk.step hlt
   obtain⟨gc,oc,rfl,hgc,hxc⟩:=HJ0.out.2.1.2 (by omega);have hck:wr.cell? ⟨gc,oc+i,none⟩=some (.int .i64 k):=(hJ.keep.cell (p:=⟨gc,oc+i,none⟩) hgc (fun e=>e (HJ0.out.2.2 ⟨gc,oc,none⟩ rfl))).trans (hxc i _ (by simp[nv,hki]));have hb8:=(yP6 H.out).2;have hwz:=hJ.chg.size
   have hn1:((S'++Q1)++P3).Nodup:=by have:=H.out.2.2.1;rw[hsp,←List.append_assoc] at this;exact this
   have hln:S'.length+Q1.length+P3.length≤900:=by have h1:=congrArg List.length hsp;have h2:=H.out.2.2.2.1;simp only[List.length_append,List.length_cons] at h1 h2;omega
   have hrec:=IH.out d' (by omega) k M1 Q1 S' A' c' (deep+1) wr hT (List.nodup_append.1 hn1).1 (by omega) (by omega) hJ.bt (by omega) hJ.row;rw[show((deep+1:Nat):Int)=(deep:Int)+1 by omega] at hrec;have HJ:=yH (yA4 hrec hJ hk2 hsp);have hiI:(i:Int)< (nd.kids.length:Int):=by omega
   have hi9:(i:Int)≤1000:=by omega
   clear hrec hJ hk2 hsp hk hT hn1 hxc hgc hki c0 f0 s0 hb8 hwz hln;go_wp2_with fail
   refine HJ.out.1.mono ?_;rintro e w6 ⟨A6,c6,rfl,k1,k2,k3,k4⟩;have HK:=yH (yA4 k1 k2 k3 k4);clear k1 k2 k3 k4;go_wp2_with fail
   go_roundg (nd.kids.length - (i+1))
   case measure=>omega
   case rel=>
    obtain⟨k1,k2,k3,k4⟩:=HK.out;obtain⟨-,hJ,hk2,hsp⟩:=HJ.out;have hwz:=hJ.chg.size;have hkz:=hJ.keep.size;have hb8:=(yP6 H.out).2
    refine⟨i+1,S'++Q1,P3,A6,c6,rfl,by omega,by rw[List.length_append],by simp,hk2,by rw[hsp,List.append_assoc],k1,k2,Chg.trans hJ.chg k3 (fun j hj e=>e.elim .inl fun e=>(hJ.at_ j e).elim .inr fun g=>by omega),fun j hj=>(k4 j hj).elim (hJ.at_ j) fun g=> .inr (Nat.le_trans hwz g),fun j hj e=>(k4 j hj).elim (fun g=>hJ.nn j g e) fun g=>?_,Chg.trans hJ.keep k3 fun j hj e hN=>e.elim (fun e=>by have:=hFb j e;have:=H2.out.2.2.2.1 j hN;omega) fun e=>hJ.nn j e hN⟩
    have:=H2.out.2.2.1.at.lt j e;have:=(H4.out.2.chg).size;omega
  ·obtain rfl:i=nd.kids.length:=by omega
   obtain rfl:P2=[]:=by rw[List.drop_eq_nil_of_le (Nat.le_refl _)] at hk;exact hk
   have HJ:=yH (yA hJ hsp);clear hJ hk hsp hlt hil c0 f0 s0;go_wp2_with fail
   go_ret
   rw[HJ.out.2,List.append_nil];exact⟨A',c',rfl,HJ.out.1.bt,HJ.out.1.row,HJ.out.1.chg,HJ.out.1.at_⟩
end
section
open Go.RowKit Go.Maps Go.Shelf Go.Sort
theorem sorted_nat (P:List Nat):∃Q:List Nat,Q.Perm P∧(P.map fun n:Nat=>(n:Int)).mergeSort (fun x y=>decide (x≤y))=Q.map fun n:Nat=>(n:Int):=by
 have hp:=List.mergeSort_perm (P.map fun n:Nat=>(n:Int)) (fun x y=>decide (x≤y));refine⟨((P.map fun n:Nat=>(n:Int)).mergeSort (fun x y=>decide (x≤y))).map Int.toNat,?_,?_⟩
 ·have h:=hp.map Int.toNat
  rw[List.map_map,show(Int.toNat∘fun n:Nat=>(n:Int))=id from funext fun n=>rfl,List.map_id] at h;exact h
 ·rw[List.map_map]
  conv=>lhs;rw[←List.map_id (List.mergeSort _ _)]
  refine List.map_congr_left fun y hy=>?_;obtain⟨n, -,rfl⟩:=List.mem_map.1 (hp.mem_iff.1 hy);rfl
theorem bpages_any (t p root D:Nat) (L:List KV) (P:List Nat) (F:Nat→Prop) (x:Rp) (w:World) (hb:BT w t p root F x) (hs:Tr x.nd (halfN x.sz) D root L P) (hnd:P.Nodup) (hD:D≤40) (hl:P.length≤900) :
  Calls prog 19 #[.pointer (some ⟨t,0,none⟩)] w fun e w'=>∃A c Q,Q.Perm P∧e= .returned (.slice A P.length c)∧BT w' t p root F x∧w'.ownsRow w.heap.size 3 1 (.slice A P.length c) P.length (nv Q)∧Chg F w w':=by
 have hpg:Calls prog 52 #[.pointer (some ⟨t,0,none⟩),.slice none 0 0,.int .i64 root,.int .i64 0] w fun e w'=>PgOut w w' t p root w.heap.size F x (.slice none 0 0) P e:=
  bpages1_any t p root w.heap.size F x hb.gp.lt hb.blk.lt D root L P [] none 0 0 w hs (by simpa using hnd) (by simpa using hl) (by omega) hb (Nat.le_refl _) (World.ownsRow_nil ..)
 have hpos:0< P.length:=by
  obtain⟨nd,P',hn,rfl,hkp⟩:=hs.kp;simp
 have H:=yH (yA hpg hb);obtain⟨c0,f0,s0⟩:=hb.blk.facts;clear hpg hb hs hnd;go_enter func19,ntmps19
 go_wp2_with fail
 refine H.out.1.mono ?_;rintro e w1 ⟨A,c,rfl,hb1,ho,hc1, -⟩;replace hc1:Chg F w w1:=hc1.mono fun j _ e=>e.elim id fun e=>by cases e
 replace ho:w1.ownsRow w.heap.size 3 1 (.slice A P.length c) P.length (nv P):=by unfold iv at ho;rw[List.map_map] at ho;exact ho
 cases A with
 | none=>
  obtain⟨h0,rfl⟩:=own_none ho
  omega
 | some a=>
  obtain⟨g,rfl,hgl⟩:=own_some ho;have hzl:(P.map fun n:Nat=>(n:Int)).length=P.length:=by simp
  have hso:=Any.slices_Sort_int sortInt g 0 c (P.map fun n:Nat=>(n:Int)) w1 (fun j hj=>by
   have hj':j< P.length:=by simpa using hj
   obtain⟨cur,hb,hgc,hnc,hcm,hcs,htake,hxl⟩:=own_row ho;refine⟨?_,by simp[World.frozen?,hgc]⟩;have:=ho.cells (g:=g) rfl j (.int .i64 (P[j]:Int)) (by simp[nv,hj']);rw[Addr.add_lit] at this;rw[this];simp[hj']) hgl (by rw[hzl];omega)
  obtain⟨Q,hQ,hQs⟩:=sorted_nat P;rw[hzl,hQs] at hso;have hso2:Calls prog 53 #[.slice (some ⟨g,0,none⟩) P.length c] w1 fun e w'=>e= .returned (.tuple #[])∧∃n os,w'=grow (putRow (Value.int .i64) (Sort.ahead w1 n) g 0 (Q.map fun n:Nat=>(n:Int)).toArray) os:=hso;clear hso hQs;have hgr:=own_rng ho ⟨g,0,none⟩ rfl;have HO:=yH (yA5 hso2 hQ ho hb1 (yA hc1 hgr))
  clear hso2 hQ ho hb1 hc1 hgr c0 f0 s0;go_wp2_with fail
  refine HO.out.1.mono ?_;rintro e w2 ⟨rfl,n,os,rfl⟩;have hr:=own_sortedI (n:=n) (os:=os) HO.out.2.2.1 (ys:=Q.map fun n:Nat=>(n:Int)) (by simp[HO.out.2.1.length_eq]);obtain⟨W2,hW2⟩:∃W2,grow (putRow (Value.int .i64) (Sort.ahead w1 n) g 0 (Q.map fun n:Nat=>(n:Int)).toArray) os=W2:=⟨_,rfl⟩;rw[hW2] at hr ⊢;have HR:=yH hr;clear hr hW2;go_wp2_with fail
  go_ret
  obtain⟨-,hQ,ho,hb1,hc1,hgr⟩:=HO.out;have hgr2:w.heap.size≤g∧g< w1.heap.size:=hgr;have hc2:Chg (fun j=>j=g) w1 W2:=(Chg.refl (fun j=>j=g) w1).grown HR.out.2 fun k hk _=>by injection hk with hk;exact hk.symm
  have hFl:=H.out.2.gp.lt;have htl:=H.out.2.blk.lt;refine⟨some ⟨g,0,none⟩,c,Q,hQ,rfl,hb1.chg hc2 (fun j hj e=>by have:=hFl j hj;omega) (fun e=>by omega) (fun e=>by omega),?_,Chg.trans hc1 hc2 fun j hj e=>by omega⟩;have:=HR.out.1;rw[List.map_map] at this;exact this
end
section
open Go.RowKit Go.Maps
theorem bfromR_any (t p root bn qn ba qa bb qb j ka l:Nat) (k v k1 v1:Int) (F N1 N2 N3:Nat→Prop) (x:Rp) (nd na nb:Nd) (w:World) (hz:Z3 w w t p root F x N1 N2 N3 N2) (ho:x.was≠none)
  (hn:NdOwn w N1 bn qn nd) (ha:NdOwn w N3 ba qa na) (hb:NdOwn w N2 bb qb nb) (hka:na.keys.length=ka) (hl:ka=l+1) (hl1:1≤l) (hk:nd.keys[j]? =some k) (hv:nd.vals[j]? =some v) (hk1:na.keys[0]? =some k1) (hv1:na.vals[0]? =some v1)
  (fn:nd.Fit x.sz) (fa:na.Fit x.sz) (fb:nb.Fit x.sz) (hlf:na.kids.length=0↔nb.kids.length=0) (hc:nd.kids.length=nd.keys.length+1) (hm:nb.keys.length+1≤mostN x.sz)
  (ua:∃c,x.now[qa]? =some c∧c.used=true) (ub:∃c,x.now[qb]? =some c∧c.used=true) (un:∃c,x.now[qn]? =some c∧c.used=true) (eab:qa≠qb) (ean:qa≠qn) (ebn:qb≠qn) :
  Calls prog 110 #[.pointer (some ⟨t,0,none⟩),.pointer (some ⟨bn,0,none⟩),.int .i64 j,.pointer (some ⟨bb,0,none⟩),.pointer (some ⟨ba,0,none⟩)] w fun e w'=>FlOut (fun j=>F j∨N1 j∨N2 j∨N3 j) w w' t p root bb qa qb qn F N2 x na.cutF (nb.addL k v (na.kids.take 1)) ⟨nd.keys.set j k1,nd.vals.set j v1,nd.kids⟩ e:=by
 have hjl:j< nd.keys.length:=(List.getElem?_eq_some_iff.1 hk).1;have hjv:j< nd.vals.length:=(List.getElem?_eq_some_iff.1 hv).1;have hlv:0< na.vals.length:=(List.getElem?_eq_some_iff.1 hv1).1;have hsz:=hz.bt.gp.szs;have hm3:mostN x.sz≤300:=by unfold mostN;omega
 have l1:nd.keys.length≤300:=by have:=fn.most;omega
 have l2:na.keys.length≤300:=by have:=fa.most;omega
 have l3:nb.keys.length≤300:=by have:=fb.most;omega
 have l4:nb.vals.length≤300:=by rw[fb.vals];exact l3
 have l6:ka≤300:=by omega
 have l5:nb.kids.length≤301:=by rcases fb.kids with e | e<;>omega
 obtain⟨vka,vva,vca,hA⟩:=ha.v;obtain⟨vkb,vvb,vcb,hB⟩:=hb.v;obtain⟨vkn,vvn,vcn,hN⟩:=hn.v;have rka:=hA.rk;rw[iv_len,hka] at rka;have rva:=hA.rv;rw[iv_len,fa.vals,hka] at rva;have rca:=hA.rc;rw[nv_len] at rca;have rkb:=hB.rk;rw[iv_len] at rkb;have rvb:=hB.rv;rw[iv_len] at rvb;have rcb:=hB.rc;rw[nv_len] at rcb;have rkn:=hN.rk;rw[iv_len] at rkn
 have rvn:=hN.rv;rw[iv_len] at rvn;have rcn:=hN.rc;rw[nv_len] at rcn;obtain⟨Aka,cka,rfl,gcka⟩:=own_shape rka;obtain⟨Ava,cva,rfl,gcva⟩:=own_shape rva;obtain⟨Aca,cca,rfl,gcca⟩:=own_shape rca;obtain⟨Akb,ckb,rfl, -⟩:=own_shape rkb;obtain⟨Avb,cvb,rfl, -⟩:=own_shape rvb;obtain⟨Acb,ccb,rfl, -⟩:=own_shape rcb;obtain⟨Akn,ckn,rfl,gckn⟩:=own_shape rkn
 obtain⟨Avn,cvn,rfl,gcvn⟩:=own_shape rvn;obtain⟨Acn,ccn,rfl,gccn⟩:=own_shape rcn;obtain⟨gkn,rfl, -⟩:=own_block rkn (by omega);obtain⟨gvn,rfl, -⟩:=own_block rvn (by omega);obtain⟨gka,rfl, -⟩:=own_block rka (by omega);obtain⟨gva,rfl, -⟩:=own_block rva (by omega);have HA:=yH hA;have HB:=yH (FlB.mk hz hB hN);have HK:=yH (yA5 hk hv hk1 hv1 (yA hka fa.vals))
 have HX:=yH (yA5 ho fn fa fb (yA5 hlf hc hm ua (yA5 ub un eab ean (yA ebn hsz))));have HR:=yH (yA3 rka rva rca);have i3:(j:Int)< (nd.keys.length:Int):=by omega
 have i4:(j:Int)< (nd.vals.length:Int):=by omega
 have i5:(0:Int)< (ka:Int):=by omega
 have i6:(1:Int)≤(ka:Int):=by omega
 have i7:¬cka=1:=by omega
 have i8:¬cva=1:=by omega
 have i9:ka - 1=l:=by omega
 have j1:1≤cka:=by omega
 have j2:1≤cva:=by omega
 have Hij:=yH hl;have hlk:0< ka:=by omega
 have HL:=yH (yA4 hjl hjv hlv hlk);clear hz ho hn ha hb hka hk hv hk1 hv1 fn fa fb hlf hc hm ua ub un eab ean ebn hsz hm3 hA hB hN rka rva rca rkb rvb rcb rkn rvn rcn hl hjl hjv hlv l2;go_enter func110,ntmps110
 have hSX:∀W,Chg N2 w W→Blk W bb 73 #[.int .i64 qb,.slice Akb nb.keys.length ckb,.slice Avb nb.vals.length cvb,.slice Acb nb.kids.length ccb]→(fun w':World=>w'.cell? ⟨bb,1,none⟩=some (.slice Akb nb.keys.length ckb)∧w'.cell? ⟨bb,2,none⟩=some (.slice Avb nb.vals.length cvb)∧w'.cell? ⟨bn,1,none⟩=some (.slice (some ⟨gkn,0,none⟩) nd.keys.length ckn)∧w'.cell? ⟨bn,2,none⟩=some (.slice (some ⟨gvn,0,none⟩) nd.vals.length cvn)∧w'.cell? ⟨gkn,j,none⟩=some (.int .i64 k)∧w'.cell? ⟨gvn,j,none⟩=some (.int .i64 v)) W:=fun W hc hb=>by
  have hn:=HB.out.n.chg hc fun j hj e=>HB.out.z.d12 j hj e;exact⟨hb.cell 1,hb.cell 2,hn.blk.cell 1,hn.blk.cell 2,(hn.kcell rfl rfl HK.out.1).1,(hn.vcell rfl rfl HK.out.2.1).1⟩
 have hS2:=hSX w.drew ((Chg.refl N2 w).drew) HB.out.b.blk.drew;have HSX:=yH hSX;have hp1:1≤w.heap.size:=by have:=tab_pos HB.out.z.bt.gp.tab;omega
 have HP:=yH (yA hp1 HB.out.b.ne);clear hSX hp1;go_wp2_with fail
 go_cut [10] (fun s10 wx=>s10= .int .i64 0∧FlR w wx t p root F x N1 N2 N3 bb qb (nb.keys.length+1) (nb.vals.length+1) (nb.keys++[k]) (nb.vals++[v]) (.slice Acb nb.kids.length ccb) (nv nb.kids) bn qn (.slice (some ⟨gkn,0,none⟩) nd.keys.length ckn) (.slice (some ⟨gvn,0,none⟩) nd.vals.length cvn) (.slice Acn nd.kids.length ccn) (iv nd.keys) (iv nd.vals) (nv nd.kids))
 case first=>
  refine wp_region_y [30,33] (S:=fun w'=>w'.cell? ⟨bb,1,none⟩=some (.slice Akb nb.keys.length ckb)∧w'.cell? ⟨bb,2,none⟩=some (.slice Avb nb.vals.length cvb)∧w'.cell? ⟨bn,1,none⟩=some (.slice (some ⟨gkn,0,none⟩) nd.keys.length ckn)∧w'.cell? ⟨bn,2,none⟩=some (.slice (some ⟨gvn,0,none⟩) nd.vals.length cvn)∧w'.cell? ⟨gkn,j,none⟩=some (.int .i64 k)∧w'.cell? ⟨gvn,j,none⟩=some (.int .i64 v)) (by kernel_rfl) hS2 (fun hHeld=>?_)
  refine Todo.out (is:=[0,1,2,3,4,6,7,8,10,15,16,17,19,20,21,23]) ?_
  repeat
   refine tkQ (v:=?_) rfl (Or.inl ⟨by rfl,?_⟩) ?_;rotate_left
   ·(intro w hSw;go_simp)<;>with_reducible rfl
   (try simp only[Act.put,lZ])
  refine Todo.fin ?_;refine Todo.out (is:=[5,9,18,22]) ?_
  repeat
   refine tkY (v:=?_) rfl (Or.inl ⟨by rfl,?_⟩) hHeld ?_;rotate_left
   ·(intro w hSw;(try dsimp only at hSw);go_simp)<;>with_reducible rfl
   (try simp only[Act.put,lZ])
  refine Todo.fin ?_;refine Todo.out (is:=[11,24]) ?_
  repeat
   refine tkQ (v:=?_) rfl (Or.inl ⟨by rfl,?_⟩) ?_;rotate_left
   ·(intro w hSw;go_simp)<;>with_reducible rfl
   (try simp only[Act.put,lZ])
  refine Todo.fin ?_;refine Todo.out (is:=[12,25]) ?_
  repeat
   refine tkY (v:=?_) rfl (Or.inl ⟨by rfl,?_⟩) hHeld ?_;rotate_left
   ·(intro w hSw;(try dsimp only at hSw);go_simp)<;>with_reducible rfl
   (try simp only[Act.put,lZ])
  refine Todo.fin ?_;refine wpAnyY_ready (rs:=[13,26]) (by kernel_rfl) (by simp) ?_;refine AllReadyY.cons rfl (fun K hK=>?_) (AllReadyY.cons rfl (fun K hK=>?_) AllReadyY.nil)
  case' _=>
   go_simp;obtain⟨W6,hW6⟩:∃W,(w.alloc (.cells #[.int .i64 k] 3)).drew=W:=⟨_,rfl⟩;rw[hW6];have gW6:Grew w W6:=hW6▸((Chg.refl NoF w).alloc _).drew;have lW6:Blk W6 w.heap.size 3 #[.int .i64 k]:=hW6▸(Blk.new w _ _).drew;have hR6:=HB.out.b.rws.grew gW6;have hB6:=HB.out.b.blk.grew gW6;refine hK.out _ _ (fun _ _=>HSX.out W6 (gW6.chg) (hB6)) ?_;clear hK K
   (try simp only[Act.put,lZ])
   refine wpAnyY_ready (rs:=[14,26]) (by kernel_rfl) (by simp) ?_;refine AllReadyY.cons rfl (fun K hK=>?_) (AllReadyY.cons rfl (fun K hK=>?_) AllReadyY.nil)
   case' _=>
    obtain⟨A7,c7,w7,hr7,hR7,ha7⟩:=appK (a:=k) hR6 (by omega) lW6 (by have:=HP.out.1;have:=gW6.size;omega);have HI:=yH hr7;clear hr7;refine step_append_run (by rfl) (.tmp 16) (.tmp 24) 22 (by rfl) (by rfl) (by rfl) HI.out ?_;clear HI;have hB7:=hB6.chg ha7.chg HP.out.2.1;have hC7:Chg N2 w w7:=Grew.then gW6 (ha7.chg.mono fun j _ e=>HB.out.b.nk j e)
    refine hK.out _ _ (fun _ _=>HSX.out w7 (hC7) (hB7)) ?_;clear hK K;(try simp only[Act.put,lZ])
    refine rdY (i:=26) (by kernel_rfl) rfl fun K hK=>?_;go_simp;obtain⟨W8,hW8⟩:∃W,w7.alloc (.cells #[.int .i64 v] 3)=W:=⟨_,rfl⟩;rw[hW8];have gW8:Grew w7 W8:=hW8▸(Chg.refl NoF w7).alloc _;have lW8:Blk W8 w7.heap.size 3 #[.int .i64 v]:=hW8▸Blk.new w7 _ _;have hR8:=hR7.grew gW8;have hB8:=hB7.grew gW8;refine hK.out _ _ (fun _ _=>HSX.out W8 (hC7.grew gW8) (hB8)) ?_
    clear hK K;(try simp only[Act.put,lZ])
    refine rdY (i:=27) (by kernel_rfl) rfl fun K hK=>?_;obtain⟨A10,c10,w10,hr10,hR10,ha10⟩:=appV (a:=v) hR8 (by omega) lW8 (by have:=HP.out.1;have:=ha7.chg.size;have:=gW6.size;have:=gW8.size;omega);have HI:=yH hr10;clear hr10;refine step_append_run (by rfl) (.tmp 29) (.tmp 37) 22 (by rfl) (by rfl) (by rfl) HI.out ?_;clear HI
    have hB10:=hB8.chg ha10.chg HP.out.2.2.1;have hC10:Chg N2 w w10:=Chg.trans (hC7.grew gW8) (ha10.chg.mono fun j _ e=>HB.out.b.nv j e) fun _ _ e=>e;have hak:=ha7;have hav:=ha10;have z6:=gW6.size;have z7:=ha7.chg.size
   rotate_left
   case' _=>
    go_simp;obtain⟨W8,hW8⟩:∃W,W6.alloc (.cells #[.int .i64 v] 3)=W:=⟨_,rfl⟩;rw[hW8];have gW8:Grew W6 W8:=hW8▸(Chg.refl NoF W6).alloc _;have lW8:Blk W8 W6.heap.size 3 #[.int .i64 v]:=hW8▸Blk.new W6 _ _;have hR8:=hR6.grew gW8;have hB8:=hB6.grew gW8;refine hK.out _ _ (fun _ _=>HSX.out W8 ((Grew.trans gW6 gW8).chg) (hB8)) ?_;clear hK K;(try simp only[Act.put,lZ])
    refine rdY (i:=14) (by kernel_rfl) rfl fun K hK=>?_;obtain⟨A7,c7,w9,hr7,hR9,ha9⟩:=appK (a:=k) hR8 (by omega) (lW6.grew gW8) (by have:=HP.out.1;have:=gW6.size;have:=gW8.size;omega);have HI:=yH hr7;clear hr7;refine step_append_run (by rfl) (.tmp 16) (.tmp 24) 22 (by rfl) (by rfl) (by rfl) HI.out ?_;clear HI;have hB9:=hB8.chg ha9.chg HP.out.2.1
    have hl9:=lW8.chg ha9.chg fun e=>by have:=HB.out.b.lt _ (HB.out.b.nk _ e);have:=gW6.size;omega
    have hC9:Chg N2 w w9:=Grew.then (Grew.trans gW6 gW8) (ha9.chg.mono fun j _ e=>HB.out.b.nk j e);refine hK.out _ _ (fun _ _=>HSX.out w9 (hC9) (hB9)) ?_;clear hK K;(try simp only[Act.put,lZ])
    refine rdY (i:=27) (by kernel_rfl) rfl fun K hK=>?_;obtain⟨A10,c10,w10,hr10,hR10,ha10⟩:=appV (a:=v) hR9 (by omega) hl9 (by have:=HP.out.1;have:=ha9.chg.size;have:=gW6.size;have:=gW8.size;omega);have HI:=yH hr10;clear hr10;refine step_append_run (by rfl) (.tmp 29) (.tmp 37) 22 (by rfl) (by rfl) (by rfl) HI.out ?_;clear HI
    have hB10:=hB9.chg ha10.chg HP.out.2.2.1;have hC10:Chg N2 w w10:=Chg.trans hC9 (ha10.chg.mono fun j _ e=>HB.out.b.nv j e) fun _ _ e=>e;have hak:=ha9;have hav:=ha10;have z6:=gW6.size;have z7:=ha9.chg.size
   rotate_left
  rotate_left 2
  case' _=>
   go_simp;obtain⟨W6,hW6⟩:∃W,(w.alloc (.cells #[.int .i64 v] 3)).drew=W:=⟨_,rfl⟩;rw[hW6];have gW6:Grew w W6:=hW6▸((Chg.refl NoF w).alloc _).drew;have lW6:Blk W6 w.heap.size 3 #[.int .i64 v]:=hW6▸(Blk.new w _ _).drew;have hR6:=HB.out.b.rws.grew gW6;have hB6:=HB.out.b.blk.grew gW6;refine hK.out _ _ (fun _ _=>HSX.out W6 (gW6.chg) (hB6)) ?_;clear hK K
   (try simp only[Act.put,lZ])
   refine rdY (i:=13) (by kernel_rfl) rfl fun K hK=>?_;go_simp;obtain⟨W8,hW8⟩:∃W,W6.alloc (.cells #[.int .i64 k] 3)=W:=⟨_,rfl⟩;rw[hW8];have gW8:Grew W6 W8:=hW8▸(Chg.refl NoF W6).alloc _;have lW8:Blk W8 W6.heap.size 3 #[.int .i64 k]:=hW8▸Blk.new W6 _ _;have hR8:=hR6.grew gW8;have hB8:=hB6.grew gW8
   refine hK.out _ _ (fun _ _=>HSX.out W8 ((Grew.trans gW6 gW8).chg) (hB8)) ?_;clear hK K;(try simp only[Act.put,lZ])
   refine rdY (i:=14) (by kernel_rfl) rfl fun K hK=>?_;obtain⟨A7,c7,w9,hr7,hR9,ha9⟩:=appK (a:=k) hR8 (by omega) lW8 (by have:=HP.out.1;have:=gW6.size;have:=gW8.size;omega);have HI:=yH hr7;clear hr7;refine step_append_run (by rfl) (.tmp 16) (.tmp 24) 22 (by rfl) (by rfl) (by rfl) HI.out ?_;clear HI;have hB9:=hB8.chg ha9.chg HP.out.2.1
   have hl9:=(lW6.grew gW8).chg ha9.chg fun e=>by have:=HB.out.b.lt _ (HB.out.b.nk _ e);omega
   have hC9:Chg N2 w w9:=Grew.then (Grew.trans gW6 gW8) (ha9.chg.mono fun j _ e=>HB.out.b.nk j e);refine hK.out _ _ (fun _ _=>HSX.out w9 (hC9) (hB9)) ?_;clear hK K;(try simp only[Act.put,lZ])
   refine rdY (i:=27) (by kernel_rfl) rfl fun K hK=>?_;obtain⟨A10,c10,w10,hr10,hR10,ha10⟩:=appV (a:=v) hR9 (by omega) hl9 (by have:=HP.out.1;have:=ha9.chg.size;have:=gW6.size;have:=gW8.size;omega);have HI:=yH hr10;clear hr10;refine step_append_run (by rfl) (.tmp 29) (.tmp 37) 22 (by rfl) (by rfl) (by rfl) HI.out ?_;clear HI;have hB10:=hB9.chg ha10.chg HP.out.2.2.1
   have hC10:Chg N2 w w10:=Chg.trans hC9 (ha10.chg.mono fun j _ e=>HB.out.b.nv j e) fun _ _ e=>e;have hak:=ha9;have hav:=ha10;have z6:=gW6.size;have z7:=ha9.chg.size
  rotate_left
  all_goals
   have z8:=gW8.size
   have hN10:∀j,((N2 j∨(Value.slice A7 (nb.keys.length+1) c7).ownBlock=some j)∨(Value.slice A10 (nb.vals.length+1) c10).ownBlock=some j)→N2 j∨w.heap.size≤j:=fun j hj=>by
    rcases hj with (e | e) | e
    ·exact .inl e
    ·exact(hak.at_ j e).imp (HB.out.b.nk j) fun e=>by omega
    ·exact(hav.at_ j e).imp (HB.out.b.nv j) fun e=>by omega
   have hS10:=HSX.out w10 hC10 hB10;obtain⟨d9,f9,s9⟩:=hB10.facts;refine hK.out _ _ (fun _ _=>hS10) ?_;clear hK K;(try simp only[Act.put,lZ])
   refine rdY (i:=28) (by kernel_rfl) rfl fun K hK=>?_;go_simp;refine hK.out _ _ (fun _ _=>hS10) ?_;clear hK K;(try simp only[Act.put,lZ])
   refine rdY (i:=29) (by kernel_rfl) rfl fun K hK=>?_;go_simp;refine hK.out _ _ (fun _ _=>hS10) ?_;clear hK K;(try simp only[Act.put,lZ])
   refine rdY (i:=30) (by kernel_rfl) rfl fun K hK=>?_;go_simp;obtain⟨W11,hW11⟩:∃W,w10.setCell ⟨bb,1,none⟩ (.slice A7 (nb.keys.length+1) c7)=W:=⟨_,rfl⟩;rw[hW11]
   have hb11:Blk W11 bb 73 #[.int .i64 qb,.slice A7 (nb.keys.length+1) c7,.slice Avb nb.vals.length cvb,.slice Acb nb.kids.length ccb]:=by
    have h9:=hB10.put 1 (.slice A7 (nb.keys.length+1) c7);rw[hW11] at h9;simpa using h9
   have hc11:Chg (fun j=>j=bb) w10 W11:=hW11▸(Chg.refl (fun j=>j=bb) w10).setCell (p:=⟨bb,1,none⟩) (fun _=>rfl) _;clear d9 f9 s9 hS10 hW11;obtain⟨d9,f9,s9⟩:=hb11.facts;refine hK.out _ _ (fun h=>by cases h) ?_;clear hK K;(try simp only[Act.put,lZ])
   refine rdY (i:=31) (by kernel_rfl) rfl fun K hK=>?_;go_simp;refine hK.out _ _ (fun _ h=>h) ?_;clear hK K;(try simp only[Act.put,lZ])
   refine rdY (i:=32) (by kernel_rfl) rfl fun K hK=>?_;go_simp;refine hK.out _ _ (fun _ h=>h) ?_;clear hK K;(try simp only[Act.put,lZ])
   refine rdY (i:=33) (by kernel_rfl) rfl fun K hK=>?_;go_simp;obtain⟨W12,hW12⟩:∃W,W11.setCell ⟨bb,2,none⟩ (.slice A10 (nb.vals.length+1) c10)=W:=⟨_,rfl⟩;rw[hW12]
   have hb12:Blk W12 bb 73 #[.int .i64 qb,.slice A7 (nb.keys.length+1) c7,.slice A10 (nb.vals.length+1) c10,.slice Acb nb.kids.length ccb]:=by
    have h9:=hb11.put 2 (.slice A10 (nb.vals.length+1) c10);rw[hW12] at h9;simpa using h9
   have hc12:Chg (fun j=>j=bb) w10 W12:=Chg.trans hc11 (hW12▸(Chg.refl (fun j=>j=bb) W11).setCell (p:=⟨bb,2,none⟩) (fun _=>rfl) _) fun _ _ e=>e;clear d9 f9 s9 hW12 hb11 hc11;refine hK.out _ _ (fun h=>by cases h) ?_;clear hK K;(try simp only[Act.put,lZ])
   refine wpAnyY_done (by kernel_rfl) ?_ _;go_wp2
   go_meet
   refine⟨rfl,A7,c7,A10,c10,_,HB.out.bset (M2':=fun j=>(N2 j∨(Value.slice A7 (nb.keys.length+1) c7).ownBlock=some j)∨(Value.slice A10 (nb.vals.length+1) c10).ownBlock=some j) (Chg.trans hC10 hc12 fun j _ e=>by subst e;exact HB.out.b.nb) ?_ hN10,Chg.trans hC10 hc12 fun j _ e=>by subst e;exact HB.out.b.nb⟩
   have:=(hR10.chg hc12 (fun g hg e=>own_blk_ne hR10.rk hB10 (by decide) (by rw[hg,e])) (fun g hg e=>own_blk_ne hR10.rv hB10 (by decide) (by rw[hg,e])) (fun g hg e=>own_blk_ne hR10.rc hB10 (by decide) (by rw[hg,e]))).ndv hb12 (.inl (.inl HB.out.b.nb));exact this
 case rest=>
  obtain⟨rfl,A7,c7,A10,c10,M2,hFB,hC⟩:=hcut;have hA:=HA.out.chg hC fun j hj e=>HB.out.z.d23 j e hj;have hkn:=hFB.n.kcell rfl rfl HK.out.1;have hvn:=hFB.n.vcell rfl rfl HK.out.2.1;have hka:=hA.kcell (yP4 HK.out).1 rfl HK.out.2.2.1;have hva:=hA.vcell ((yP4 HK.out).2.trans (yP4 HK.out).1) rfl HK.out.2.2.2.1;have hks:=hFB.n.kset (j:=j) rfl HL.out.1;have hap:=hFB.n.apart
  obtain⟨x1,x2⟩:=hks;obtain⟨x3',x4',x5⟩:=x2 k1 _ rfl;obtain⟨W4,hW4⟩:∃W,(wc.setCell ⟨gkn,j,none⟩ (.int .i64 k1)).drew=W:=⟨_,rfl⟩;have g4:Grew (wc.setCell ⟨gkn,j,none⟩ (.int .i64 k1)) W4:=hW4▸(Chg.refl NoF _).drew;have x3:=x3'.chg g4 fun _ _=>id;have x4:=x4'.grew g4;clear x3' x4' g4;obtain⟨y1,y2⟩:=x3.vset (j:=j) rfl HL.out.2.1
  have y3:=(x3.vcell rfl rfl HK.out.2.1).1;obtain⟨W5,hW5⟩:∃W,W4.setCell ⟨gvn,j,none⟩ (.int .i64 v1)=W:=⟨_,rfl⟩;obtain⟨y4,y5,y6⟩:=y2 v1 W5 hW5;have hc5:Chg N1 wc W5:=Chg.trans (x4.mono fun j _ e=>by subst e;exact x5) y5 fun j _ e=>by subst e;exact y6
  have hFB5:=hFB.nset hc5 y4;have hA5:=hA.chg hc5 fun j hj e=>HB.out.z.d13 j e hj;have hC5:Chg (fun j=>N1 j∨N2 j) w W5:=Chg.trans (hC.mono fun j _ e=> .inr e) hc5 fun j _ e=> .inl e;have HF5:=yH (yA3 hFB5 hA5 hC5)
  have hS3:(fun w':World=>w'.cell? ⟨bn,1,none⟩=some (.slice (some ⟨gkn,0,none⟩) nd.keys.length ckn)∧w'.cell? ⟨bn,2,none⟩=some (.slice (some ⟨gvn,0,none⟩) nd.vals.length cvn)∧w'.cell? ⟨ba,1,none⟩=some (.slice (some ⟨gka,0,none⟩) ka cka)∧w'.cell? ⟨ba,2,none⟩=some (.slice (some ⟨gva,0,none⟩) ka cva)∧w'.cell? ⟨gka,0,none⟩=some (.int .i64 k1)∧w'.cell? ⟨gva,0,none⟩=some (.int .i64 v1)) wc.drew:=⟨hFB.n.blk.drew.cell 1,hFB.n.blk.drew.cell 2,hA.blk.drew.cell 1,hA.blk.drew.cell 2,hka.1,hva.1⟩
  have HW:=yH (yA hW4 hW5);have hkn1:=hkn.1;have HY:=yH (yA4 y1 y3 x1 hkn1);clear hFB hC hA hkn hvn hka hva hap x1 x2 x3 x4 x5 y1 y2 y3 y4 y5 y6 hc5 hFB5 hA5 hC5 hW4 hW5 hkn1 hS2;go_wp2_with fail
  refine wp_region_y [23,25] (S:=fun w'=>w'.cell? ⟨bn,1,none⟩=some (.slice (some ⟨gkn,0,none⟩) nd.keys.length ckn)∧w'.cell? ⟨bn,2,none⟩=some (.slice (some ⟨gvn,0,none⟩) nd.vals.length cvn)∧w'.cell? ⟨ba,1,none⟩=some (.slice (some ⟨gka,0,none⟩) ka cka)∧w'.cell? ⟨ba,2,none⟩=some (.slice (some ⟨gva,0,none⟩) ka cva)∧w'.cell? ⟨gka,0,none⟩=some (.int .i64 k1)∧w'.cell? ⟨gva,0,none⟩=some (.int .i64 v1)) (by kernel_rfl) hS3 (fun hHeld=>?_)
  refine Todo.out (is:=[0,1,2,4,5,6,7,9,10,11,12,16,17,18]) ?_
  repeat
   refine tkQ (v:=?_) rfl (Or.inl ⟨by rfl,?_⟩) ?_;rotate_left
   ·(intro w hSw;go_simp)<;>with_reducible rfl
   (try simp only[Act.put,lZ])
  refine Todo.fin ?_;refine Todo.out (is:=[3,8,13,19]) ?_
  repeat
   refine tkY (v:=?_) rfl (Or.inl ⟨by rfl,?_⟩) hHeld ?_;rotate_left
   ·(intro w hSw;(try dsimp only at hSw);go_simp)<;>with_reducible rfl
   (try simp only[Act.put,lZ])
  refine Todo.fin ?_;refine Todo.out (is:=[14,20]) ?_
  repeat
   refine tkQ (v:=?_) rfl (Or.inl ⟨by rfl,?_⟩) ?_;rotate_left
   ·(intro w hSw;go_simp)<;>with_reducible rfl
   (try simp only[Act.put,lZ])
  refine Todo.fin ?_;refine Todo.out (is:=[15,21]) ?_
  repeat
   refine tkY (v:=?_) rfl (Or.inl ⟨by rfl,?_⟩) hHeld ?_;rotate_left
   ·(intro w hSw;(try dsimp only at hSw);go_simp)<;>with_reducible rfl
   (try simp only[Act.put,lZ])
  refine Todo.fin ?_;have HY1:=HY.out.2.2.1;have HY2:=HY.out.2.2.2;refine rdY (i:=22) (by kernel_rfl) rfl fun K hK=>?_;go_simp;refine hK.out _ _ (fun _ h=>h) ?_;clear hK K;(try simp only[Act.put,lZ])
  refine rdY (i:=23) (by kernel_rfl) rfl fun K hK=>?_;go_simp;rw[HW.out.1];clear HY1 HY2;have HY1:=HY.out.1;have HY2:=HY.out.2.1;refine hK.out _ _ (fun h=>by cases h) ?_;clear hK K;(try simp only[Act.put,lZ])
  refine rdY (i:=24) (by kernel_rfl) rfl fun K hK=>?_;go_simp;refine hK.out _ _ (fun _ h=>h) ?_;clear hK K;(try simp only[Act.put,lZ])
  refine rdY (i:=25) (by kernel_rfl) rfl fun K hK=>?_;go_simp;rw[HW.out.2];refine hK.out _ _ (fun h=>by cases h) ?_;clear hK K;(try simp only[Act.put,lZ])
  refine wpAnyY_done (by kernel_rfl) ?_ _;clear hHeld hS3 HY1 HY2 HY HW;obtain⟨W6,hW6⟩:∃W,((W5.setCell ⟨ba,1,none⟩ (.slice (some ⟨gka,1,none⟩) l (cka - 1))).setCell ⟨ba,2,none⟩ (.slice (some ⟨gva,1,none⟩) l (cva - 1))).drew=W:=⟨_,rfl⟩;obtain⟨hA6,hc6,hB6⟩:=HF5.out.2.1.drop2 (m:=l) (yP4 HK.out).1 ((yP4 HK.out).2.trans (yP4 HK.out).1) Hij.out hW6
  have hFB6:=HF5.out.1.aset (hc6.mono fun j _ e=>by subst e;exact HA.out.nb);have hC6:Chg (fun j=>N1 j∨N2 j∨N3 j) w W6:=Chg.trans (HF5.out.2.2.mono fun j _ e=>e.elim .inl fun e=> .inr (.inl e)) hc6 fun j _ e=>by subst e;exact .inr (.inr HA.out.nb)
  have hlt6:∀j,N3 j→j< W6.heap.size:=fun j hj=>Nat.lt_of_lt_of_le (HA.out.lt j hj) hC6.size;have hlf6:=leaf_any ba qa ⟨na.keys.drop 1,na.vals.drop 1,na.kids⟩ N3 W6 (hA6.at hlt6);have H6:=yH (yA5 hlf6 hFB6 hA6 hC6 (yA3 hW6 hB6 hlt6));obtain⟨d9,f9,s9⟩:=HF5.out.2.1.blk.facts;clear hB6 hlt6;clear hlf6 hFB6 hA6 hC6 hW6 hc6;go_wp2_with fail
  go_region
  rw[(yP4 H6.out).1];clear d9 f9 s9;go_wp2_with fail
  refine H6.out.1.mono ?_;rintro e w7 ⟨rfl,rfl⟩;by_cases h0:na.kids.length=0
  case' _=>
   have hkc:na.kids=[]:=List.eq_nil_of_length_eq_zero h0;have hbc:nb.kids=[]:=List.eq_nil_of_length_eq_zero ((yP4 HX.out).1.1 h0);have t1:decide (na.kids.length=0)=true:=decide_eq_true h0
   have hAo:NdAt W6 N3 ba qa na.cutF:=by
    have e:na.cutF=⟨na.keys.drop 1,na.vals.drop 1,na.kids⟩:=by simp only[Nd.cutF,hkc,List.drop_nil]
    rw[e];exact H6.out.2.2.1.at (yP6 H6.out)
   have hBo:NdOwn W6 M2 bb qb (nb.addL k v (na.kids.take 1)):=by
    refine NdV.own (nd:=nb.addL k v (na.kids.take 1)) (vk:= .slice A7 (nb.keys.length+1) c7) (vv:= .slice A10 (nb.vals.length+1) c10) (vc:= .slice Acb nb.kids.length ccb) ?_;have e3:(nb.addL k v (na.kids.take 1)).kids=nb.kids:=by simp[Nd.addL,hkc]
    rw[e3];exact H6.out.2.1.b
   have hNo:NdOwn W6 N1 bn qn ⟨nd.keys.set j k1,nd.vals.set j v1,nd.kids⟩:=NdV.own (nd:=⟨nd.keys.set j k1,nd.vals.set j v1,nd.kids⟩) H6.out.2.1.n
   have hfb:(nb.addL k v (na.kids.take 1)).Fit x.sz:=Nd.addL_fit HX.out.2.2.2.1 (yP6 HX.out).1 (HX.out.2.1.ki _ (List.mem_of_getElem? HK.out.1)) (HX.out.2.1.vi _ (List.mem_of_getElem? HK.out.2.1)) (.inl ⟨hbc,by rw[hkc,List.take_nil]⟩) (fun q hq=>by rw[hkc,List.take_nil] at hq;cases hq);clear hkc hbc
   have hal:=fl_fin (W:=W6) (G:=fun j=>F j∨N1 j∨N2 j∨N3 j) (its:=[⟨bb,M2,qb,nb.addL k v (na.kids.take 1)⟩,⟨ba,N3,qa,na.cutF⟩,⟨bn,N1,qn,⟨nd.keys.set j k1,nd.vals.set j v1,nd.kids⟩⟩]) H6.out.2.1.z HX.out.1 hAo hBo hNo.at
    (Nd.cutF_fit HX.out.2.2.1 (by have:=(yP4 HK.out).1;omega)) hfb (Nd.set_fit HX.out.2.1 (HX.out.2.2.1.ki _ (List.mem_of_getElem? HK.out.2.2.1)) (HX.out.2.2.1.vi _ (List.mem_of_getElem? HK.out.2.2.2.1))) (yP6 HX.out).2.1 (yP8 HX.out).1 (yP8 HX.out).2.1 (yP10 HX.out).1 (yP10 HX.out).2.1 (yP12 HX.out).1 (.inr rfl) (fun j e=> .inr e) (fun j e=> .inl e) (yP12 HX.out).2.2.2.2.1
   clear hAo hBo hNo hfb;rw[show(pv [⟨bb,M2,qb,nb.addL k v (na.kids.take 1)⟩,⟨ba,N3,qa,na.cutF⟩,⟨bn,N1,qn,⟨nd.keys.set j k1,nd.vals.set j v1,nd.kids⟩⟩])=[.pointer (some ⟨bb,0,none⟩),.pointer (some ⟨ba,0,none⟩),.pointer (some ⟨bn,0,none⟩)] from rfl] at hal;have HE:=yH hal;clear hal;go_wp2_with fail
  rotate_left
  case' _=>
   have t1:decide (na.kids.length=0)=false:=decide_eq_false h0;have t2:decide (na.kids=[])=false:=decide_eq_false fun e=>h0 (by rw[e];rfl);have hnkl:na.kids.length=ka+1:=by have e1:=(yP4 HK.out).1;rcases HX.out.2.2.1.kids with e | e<;>omega
   have hbkl:nb.kids.length=nb.keys.length+1:=by
    have e1:¬nb.kids.length=0:=fun e=>h0 ((yP4 HX.out).1.2 e);rcases HX.out.2.2.2.1.kids with e | e<;>omega
   obtain⟨cq,hcq⟩:∃c,na.kids[0]? =some c:=⟨_,List.getElem?_eq_getElem (by omega)⟩;have hdr:na.kids.take 1=[cq]:=by rw[List.take_add_one,hcq];rfl
   obtain⟨gca,hgca, -⟩:=own_block HR.out.2.2 (show 0< na.kids.length by omega);subst hgca;have hA6:=H6.out.2.2.1;have hcc:=hA6.ccell hcq
   have hS6:(fun w':World=>w'.cell? ⟨bb,3,none⟩=some (.slice Acb nb.kids.length ccb)∧w'.cell? ⟨ba,3,none⟩=some (.slice (some ⟨gca,0,none⟩) na.kids.length cca)∧w'.cell? ⟨gca,0,none⟩=some (.int .i64 cq)) W6.drew:=⟨H6.out.2.1.b.blk.drew.cell 3,(yP4 H6.out).2.1.drew.cell 3,hcc⟩;have H7:=yH (yA4 hnkl hbkl hcq hdr)
   have va1:(1:Int)≤(na.kids.length:Int):=by omega
   have v2:¬cca=1:=by omega
   have v3:1≤cca:=by omega
   have v4:na.kids.length - 1=ka:=by omega
   have v5:(0:Int)< (na.kids.length:Int):=by omega
   have v6:1≤na.kids.length:=by omega
   have v7:0< na.kids.length:=by omega
   have H0:=yH h0;clear hnkl hbkl hcq hdr hA6 hcc h0;go_wp2_with fail
   refine wp_region_y [15] (S:=fun w'=>w'.cell? ⟨bb,3,none⟩=some (.slice Acb nb.kids.length ccb)∧w'.cell? ⟨ba,3,none⟩=some (.slice (some ⟨gca,0,none⟩) na.kids.length cca)∧w'.cell? ⟨gca,0,none⟩=some (.int .i64 cq)) (by kernel_rfl) hS6 (fun hHeld=>?_);refine Todo.out (is:=[0,1,2,3,5,6,7]) ?_
   repeat
    refine tkQ (v:=?_) rfl (Or.inl ⟨by rfl,?_⟩) ?_;rotate_left
    ·(intro w hSw;go_simp)<;>with_reducible rfl
    (try simp only[Act.put,lZ])
   refine Todo.fin ?_;refine Todo.out (is:=[4,8]) ?_
   repeat
    refine tkY (v:=?_) rfl (Or.inl ⟨by rfl,?_⟩) hHeld ?_;rotate_left
    ·(intro w hSw;(try dsimp only at hSw);go_simp)<;>with_reducible rfl
    (try simp only[Act.put,lZ])
   refine Todo.fin ?_;refine tkQ1 (i:=9) (v:=?_) rfl (Or.inl ⟨by rfl,?_⟩) ?_;rotate_left
   ·(intro w hSw;go_simp)<;>with_reducible rfl
   (try simp only[Act.put,lZ])
   refine tkY1 (i:=10) (v:=?_) rfl (Or.inl ⟨by rfl,?_⟩) hHeld ?_;rotate_left
   ·(intro w hSw;(try dsimp only at hSw);go_simp)<;>with_reducible rfl
   (try simp only[Act.put,lZ])
   refine rdY (i:=11) (by kernel_rfl) rfl fun K hK=>?_;go_simp;obtain⟨W8,hW8⟩:∃W,(W6.alloc (.cells #[.int .i64 cq] 3)).drew=W:=⟨_,rfl⟩;rw[hW8];have hg8:Grew W6 W8:=hW8▸((Chg.refl NoF W6).alloc _).drew;have hlit:Blk W8 W6.heap.size 3 #[.int .i64 cq]:=hW8▸(Blk.new W6 _ _).drew;have hb8:=H6.out.2.1.b.chg hg8 fun _ _=>id;have hA8:=H6.out.2.2.1.chg hg8 fun _ _=>id
   have rcb8:=hb8.rc;rw[nv_len] at rcb8;rw[nv_ivm] at rcb8;have hlc:(nb.kids.map Int.ofNat).length=nb.kids.length:=by simp
   obtain⟨A9,c9,w9,hr9,ho9,ha9⟩:=app1 (l:=nb.kids.map Int.ofNat) (by rw[hlc];exact rcb8) (by omega) hlit (by have:=HP.out.1;have:=H6.out.2.2.2.1.size;have:=hg8.size;omega);rw[hlc] at hr9 ho9 ha9
   have hS8:(fun w':World=>w'.cell? ⟨bb,3,none⟩=some (.slice Acb nb.kids.length ccb)∧w'.cell? ⟨ba,3,none⟩=some (.slice (some ⟨gca,0,none⟩) na.kids.length cca)∧w'.cell? ⟨gca,0,none⟩=some (.int .i64 cq)) W8:=⟨hb8.blk.cell 3,((yP4 H6.out).2.1.grew hg8).cell 3,hA8.ccell H7.out.2.2.1⟩;have H8:=yH (yA4 hr9 hb8 hA8 hg8);clear hr9 hb8 hA8 hg8 hlit rcb8 hW8 hlc
   refine hK.out _ _ (fun _ _=>hS8) ?_;clear hK K;(try simp only[Act.put,lZ])
   refine rdY (i:=12) (by kernel_rfl) rfl fun K hK=>?_;refine step_append_run (by rfl) (.tmp 90) (.tmp 97) 22 (by rfl) (by rfl) (by rfl) H8.out.1 ?_;have hl9:(iv (nb.kids.map Int.ofNat++[(cq:Int)])).length=nb.kids.length+1:=by simp[iv]
   have hb9:=H8.out.2.1.blk.chg ha9.chg H8.out.2.1.ne.2.2;have hN2c:∀j,(Value.slice Acb nb.kids.length ccb).ownBlock=some j→M2 j:=H8.out.2.1.nc;have hc9:Chg M2 W6 w9:=Grew.then H8.out.2.2.2 (ha9.chg.mono fun j _ e=>hN2c j e);have hA9:=H6.out.2.2.1.chg hc9 fun j hj e=>H6.out.2.1.z.d23 j e hj;have hA9b:=(yP4 H6.out).2.1.chg hc9 fun e=>H6.out.2.1.z.d23 ba e HA.out.nb
   have hS9:(fun w':World=>w'.cell? ⟨bb,3,none⟩=some (.slice Acb nb.kids.length ccb)∧w'.cell? ⟨ba,3,none⟩=some (.slice (some ⟨gca,0,none⟩) na.kids.length cca)∧w'.cell? ⟨gca,0,none⟩=some (.int .i64 cq)) w9:=⟨hb9.cell 3,hA9b.cell 3,hA9.ccell H7.out.2.2.1⟩;obtain⟨d9,f9,s9⟩:=hb9.facts;have H9:=yH (yA4 ho9 ha9 hl9 hc9);clear ho9 ha9 hl9 hb9 hN2c hc9 hA9 hA9b
   refine hK.out _ _ (fun _ _=>hS9) ?_;clear hK K;(try simp only[Act.put,lZ])
   refine rdY (i:=13) (by kernel_rfl) rfl fun K hK=>?_;go_simp;refine hK.out _ _ (fun _ h=>h) ?_;clear hK K;(try simp only[Act.put,lZ])
   refine rdY (i:=14) (by kernel_rfl) rfl fun K hK=>?_;go_simp;refine hK.out _ _ (fun _ h=>h) ?_;clear hK K;(try simp only[Act.put,lZ])
   refine rdY (i:=15) (by kernel_rfl) rfl fun K hK=>?_;go_simp;obtain⟨W10,hW10⟩:∃W,w9.setCell ⟨bb,3,none⟩ (.slice A9 (nb.kids.length+1) c9)=W:=⟨_,rfl⟩;rw[hW10];have hb10:=H8.out.2.1.setC H9.out.2.1 (by rw[H9.out.2.2.1];exact H9.out.1) hW10
   have hc10:Chg M2 W6 W10:=Chg.trans H9.out.2.2.2 (hW10▸(Chg.refl (fun j=>j=bb) w9).setCell (p:=⟨bb,3,none⟩) (fun _=>rfl) _) fun j _ e=>by subst e;exact H8.out.2.1.nb
   have z8:=H8.out.2.2.2.size
   have hFB10:=H6.out.2.1.bset hc10 hb10 (fun j hj=>by
    rcases hj with e | e
    ·exact .inl e
    ·exact(H9.out.2.1.at_ j e).imp (H8.out.2.1.nc j) fun e=>by omega)
   have hA10:=H6.out.2.2.1.chg hc10 fun j hj e=>H6.out.2.1.z.d23 j e hj;have hA10b:=(yP4 H6.out).2.1.chg hc10 fun e=>H6.out.2.1.z.d23 ba e HA.out.nb;obtain⟨M3,hM3⟩:∃N:Nat→Prop,(fun j=>M2 j∨(Value.slice A9 (nb.kids.length+1) c9).ownBlock=some j)=N:=⟨_,rfl⟩;rw[hM3] at hFB10;refine hK.out _ _ (fun h=>by cases h) ?_;clear hK K;(try simp only[Act.put,lZ])
   refine wpAnyY_done (by kernel_rfl) ?_ _;obtain⟨W11,hW11⟩:∃W,W10.setCell ⟨ba,3,none⟩ (.slice (some ⟨gca,1,none⟩) ka (cca - 1))=W:=⟨_,rfl⟩;have hne:=HA.out.ne;obtain⟨hA11,hc11⟩:=hA10.dropC (m:=ka) H7.out.1 (fun e=>hne.2.2 (by rw[←e];rfl)) (fun a ha e=>by cases ha;exact hne.1 (by rw[←e];rfl)) (fun a ha e=>by cases ha;exact hne.2.1 (by rw[←e];rfl)) hW11
   have hFB11:=hFB10.aset (hc11.mono fun j _ e=>by subst e;exact HA.out.nb);have hlt11:∀j,N3 j→j< W11.heap.size:=fun j hj=>by have:=(yP6 H6.out) j hj;have:=hc10.size;have:=hc11.size;omega
   clear hHeld hS6 hS8 hS9 d9 f9 s9;obtain⟨d9,f9,s9⟩:=hA10b.facts;have hz11:W11.heap.size=W10.heap.size:=by subst hW11;simp
   have H11:=yH (yA4 hFB11 (hA11.at hlt11) hW11 hz11);clear hb10 hc10 z8 hFB10 hA10 hA10b hM3 hW10 hA11 hc11 hFB11 hW11 hz11 H8 H9 hne hlt11;have hAo:NdAt W11 N3 ba qa na.cutF:=H11.out.2.1
   have hBo:NdOwn W11 M3 bb qb (nb.addL k v (na.kids.take 1)):=by
    refine NdV.own (nd:=nb.addL k v (na.kids.take 1)) (vk:= .slice A7 (nb.keys.length+1) c7) (vv:= .slice A10 (nb.vals.length+1) c10) (vc:= .slice A9 (nb.kids.length+1) c9) ?_
    have e3:nv (nb.addL k v (na.kids.take 1)).kids=iv (nb.kids.map Int.ofNat++[(cq:Int)]):=by
     rw[nv_ivm];simp[Nd.addL,H7.out.2.2.2]
    rw[e3];exact H11.out.1.b
   have hNo:NdOwn W11 N1 bn qn ⟨nd.keys.set j k1,nd.vals.set j v1,nd.kids⟩:=NdV.own (nd:=⟨nd.keys.set j k1,nd.vals.set j v1,nd.kids⟩) H11.out.1.n
   have hfb:(nb.addL k v (na.kids.take 1)).Fit x.sz:=Nd.addL_fit HX.out.2.2.2.1 (yP6 HX.out).1 (HX.out.2.1.ki _ (List.mem_of_getElem? HK.out.1)) (HX.out.2.1.vi _ (List.mem_of_getElem? HK.out.2.1)) (.inr ⟨H7.out.2.1,by rw[H7.out.2.2.2];rfl⟩) (fun q hq=>HX.out.2.2.1.ci q (List.mem_of_mem_take hq))
   have hal:=fl_fin (W:=W11) (G:=fun j=>F j∨N1 j∨N2 j∨N3 j) (its:=[⟨bb,M3,qb,nb.addL k v (na.kids.take 1)⟩,⟨ba,N3,qa,na.cutF⟩,⟨bn,N1,qn,⟨nd.keys.set j k1,nd.vals.set j v1,nd.kids⟩⟩]) H11.out.1.z HX.out.1 hAo hBo hNo.at
    (Nd.cutF_fit HX.out.2.2.1 (by have:=(yP4 HK.out).1;omega)) hfb (Nd.set_fit HX.out.2.1 (HX.out.2.2.1.ki _ (List.mem_of_getElem? HK.out.2.2.1)) (HX.out.2.2.1.vi _ (List.mem_of_getElem? HK.out.2.2.2.1))) (yP6 HX.out).2.1 (yP8 HX.out).1 (yP8 HX.out).2.1 (yP10 HX.out).1 (yP10 HX.out).2.1 (yP12 HX.out).1 (.inr rfl) (fun j e=> .inr e) (fun j e=> .inl e) (yP12 HX.out).2.2.2.2.1
   clear hAo hBo hNo hfb;rw[show(pv [⟨bb,M3,qb,nb.addL k v (na.kids.take 1)⟩,⟨ba,N3,qa,na.cutF⟩,⟨bn,N1,qn,⟨nd.keys.set j k1,nd.vals.set j v1,nd.kids⟩⟩])=[.pointer (some ⟨bb,0,none⟩),.pointer (some ⟨ba,0,none⟩),.pointer (some ⟨bn,0,none⟩)] from rfl,H11.out.2.2.2] at hal;have HE:=yH hal;clear hal;go_wp2_with fail
   rw[H11.out.2.2.1];clear d9 f9 s9
  rotate_left
  all_goals
   refine HE.out.mono ?_;rintro e w' (⟨rfl,hr⟩ | ⟨rfl,hr⟩)
   ·have HO:=yH hr
    clear hr;go_wp2_with fail
    go_ret
    exact .inl ⟨rfl,HO.out⟩
   ·have HO:=yH hr
    clear hr;go_wp2_with fail
    go_ret
    exact .inr ⟨rfl,HO.out⟩
end
section
open Go.RowKit Go.Maps
structure DlJ (w W:World) (t p root:Nat) (F:Nat→Prop) (x:Rp) (R:List KV) (bn d q:Nat) (nd:Nd) (F':Nat→Prop) (y:Rp) (D:Nat) (P:List Nat) (k:Int) (A M B:List KV) (P1 PM P2:List Nat) (N:Nat→Prop):Prop where
 bt:BT W t p root F' y
 rch:Rch F F' w W
 like:x.like y
 ways:DelAt y.nd (halfN y.sz) D root R P k d q nd A M B P1 PM P2
 own:NdOwn W N bn q nd
 nF:∀j,N j→¬F' j
 nw:∀j,N j→w.heap.size≤j
 room:halfN y.sz≤nd.keys.length∨d=D
 cnt:y.now.countP Pk.used=P.length
 used:y.now.countP Pk.used≤x.now.countP Pk.used
 tl:t< w.heap.size
def DlN (w W:World) (t p root:Nat) (F:Nat→Prop) (x:Rp) (R:List KV) (bn d:Nat) (k:Int):Prop:=
 ∃q nd F' y D P A M B P1 PM P2 N,DlJ w W t p root F x R bn d q nd F' y D P k A M B P1 PM P2 N
section
variable {w W:World} {t p root:Nat} {F:Nat→Prop} {x:Rp} {R:List KV} {bn d q:Nat} {nd:Nd} {F':Nat→Prop} {y:Rp} {D:Nat} {P:List Nat} {k:Int} {A M B:List KV} {P1 PM P2:List Nat} {N:Nat→Prop}
theorem DlJ.step (h:DlJ w W t p root F x R bn d q nd F' y D P k A M B P1 PM P2 N) {W':World} {b' d' q' D':Nat} {nd':Nd} {F2 N' G:Nat→Prop} {y':Rp} {P':List Nat} {k':Int} {A' M' B':List KV} {P1' PM' P2':List Nat}
  (hb:BT W' t p root F2 y') (hc:Chg G W W') (hG:∀j,G j→F' j∨w.heap.size≤j) (hF2:∀j,F2 j→F' j∨W.heap.size≤j) (hl:y.like y') (ha:DelAt y'.nd (halfN y.sz) D' root R P' k' d' q' nd' A' M' B' P1' PM' P2') (ho:NdOwn W' N' b' q' nd') (hN:∀j,N' j→¬F2 j) (hw:∀j,N' j→w.heap.size≤j)
  (hr:halfN y.sz≤nd'.keys.length∨d'=D') (hu:y'.now.countP Pk.used=P'.length) (hle:P'.length≤P.length):DlJ w W' t p root F x R b' d' q' nd' F2 y' D' P' k' A' M' B' P1' PM' P2' N':=by
 have hsz:=h.rch.chg.size;have hF':∀j,j< w.heap.size→F' j→F j:=fun j hj e=>(h.rch.new j e).resolve_right (by omega)
 exact⟨hb,⟨Chg.trans h.rch.chg hc fun j hj e=>hF' j hj ((hG j e).resolve_right (by omega)),fun j e=>(hF2 j e).elim (h.rch.new j) fun e=> .inr (by omega)⟩,h.like.trans hl,by rw[hl.sz];exact ha,ho,hN,hw,by rw[hl.sz];exact hr,hu,by rw[hu];have:=h.cnt;have:=h.used;omega,h.tl⟩
theorem DlJ.fail (h:DlJ w W t p root F x R bn d q nd F' y D P k A M B P1 PM P2 N) {W1 w':World} {G G1:Nat→Prop} (hc:Chg G1 W W1) (hG1:∀j,G1 j→F' j∨w.heap.size≤j) (hf:FullG G W1 w' t p root F' y 0) (hG:∀j,G j→F' j∨w.heap.size≤j):Full w w' t p root F x 0:=by
 have hu:=h.used;have hF':∀j,j< w.heap.size→F' j→F j:=fun j hj e=>(h.rch.new j e).resolve_right (by omega);have h1:Chg F w W1:=Chg.trans h.rch.chg hc fun j hj e=>hF' j hj ((hG1 j e).resolve_right (by omega));exact(hf.more (m':=0) h.like (by omega) h1 h.rch.new fun j hj e=>hF' j hj ((hG j e).resolve_right (by omega))).full (Nat.le_refl _)
theorem DlJ.down (h:DlJ w W t p root F x R bn (d+1) q nd F' y D P k A M B P1 PM P2 N) {W1:World} {b3 c:Nat} {kd:Nd} {N3:Nat→Prop} (hk:nd.keys.contains k=false) (hi:nd.kids[atI nd.keys k]? =some c) (hkd:y.nd c=some kd) (hc:Chg F' W W1) (hb:BT W1 t p root F' y) (hn:NdOwn W1 N3 b3 c kd) (hN:∀j,N3 j→W.heap.size≤j) (hr:halfN y.sz≤kd.keys.length) :
  DlN w W1 t p root F x R b3 d k:=by
 obtain⟨A',M',B',P1',PM',P2',g⟩:=h.ways.goes hk hi hkd;have hlt:=h.bt.gp.lt;have hsz:=h.rch.chg.size;exact⟨_,_,_,_,_,_,_,_,_,_,_,_,_,h.step hb hc (fun j e=> .inl e) (fun j e=> .inl e) (Rp.like.refl y) g hn (fun j hj e=>by have:=hN j hj;have:=hlt j e;omega) (fun j hj=>by have:=hN j hj;omega) (.inl hr) h.cnt (Nat.le_refl _)⟩
def StOut (w w':World) (t p root:Nat) (F:Nat→Prop) (x:Rp) (R:List KV) (b d:Nat) (k:Int) (e:Ending):Prop:=
 (e= .returned (.int .i64 0)∧DlN w w' t p root F x R b d k)∨(e= .returned (.int .i64 21)∧Full w w' t p root F x 0)
section
variable {W1 w':World} {q1 q2 j bb:Nat} {kk vv k1 v1:Int} {a b:Nd} {N2 N3:Nat→Prop} {e:Ending}
theorem DlJ.left (h:DlJ w W t p root F x R bn (d+1) q nd F' y D P k A M B P1 PM P2 N) (hh:2≤halfN y.sz) (hf:nd.keys.contains k=false) (hi:atI nd.keys k=j+1) (h1:nd.kids[j]? =some q1) (h2:nd.kids[j+1]? =some q2) (hk:nd.keys[j]? =some kk) (hv:nd.vals[j]? =some vv) (ha:y.nd q1=some a) (hb:y.nd q2=some b) (o1:halfN y.sz≤a.keys.length) (o2:b.keys.length< halfN y.sz)
  (hk1:a.keys[a.keys.length - 1]? =some k1) (hv1:a.vals[a.keys.length - 1]? =some v1) (hc1:Chg F' W W1) (hN2:∀j,N2 j→W.heap.size≤j) (hN3:∀j,N3 j→W.heap.size≤j)
  (hfl:FlOut (fun j=>F' j∨N j∨N2 j∨N3 j) W1 w' t p root bb q1 q2 q F' N2 y a.cutL (b.addF kk vv (a.kids.drop a.keys.length)) ⟨nd.keys.set j k1,nd.vals.set j v1,nd.kids⟩ e):StOut w w' t p root F x R bb d k e:=by
 have hsz:=h.rch.chg.size;have hsz1:=hc1.size
 have hGw:∀j,(F' j∨N j∨N2 j∨N3 j)→F' j∨w.heap.size≤j:=fun j hj=>by
  rcases hj with e | e | e | e
  ·exact .inl e
  ·exact .inr (h.nw j e)
  ·exact .inr (by have:=hN2 j e;omega)
  ·exact .inr (by have:=hN3 j e;omega)
 rcases hfl with ⟨rfl,y',F2,N',g1,g2,g3,g4,g5,g6,g7,g8,g9,g10,g11,g12⟩ | ⟨rfl,hfu⟩
 ·refine .inl ⟨rfl,?_⟩
  obtain⟨k1',v1',w1,w2,w3⟩:=h.ways.fillL hf hi h1 h2 hk hv ha hb hh o1 (by omega);rw[hk1] at w1;cases w1;rw[hv1] at w2;cases w2;obtain⟨P',A',M',B',P1',PM',P2',hp,g⟩:=w3 y'.nd g8 g9 g10 fun i _ i1 i2 i3=>g11 i i1 i2 i3
  exact⟨_,_,_,_,_,_,_,_,_,_,_,_,_,h.step g1 (Chg.trans (hc1.mono fun j _ e=> .inl e) g2 fun _ _ e=>e) hGw (fun j hj=>(g3 j hj).imp id fun e=>by omega) g7 g g4 g5 (fun j hj=>(g6 j hj).elim (fun e=>by have:=hN2 j e;omega) fun e=>by omega) (.inl (by simp only[Nd.addF,List.length_cons];have:=h.ways.tr.kid_occ h.ways.nd h2 hb;omega)) (by rw[g12,h.cnt,hp.length_eq]) (by rw[hp.length_eq];exact Nat.le_refl _)⟩
 ·exact .inr ⟨rfl,h.fail hc1 (fun j e=> .inl e) hfu hGw⟩
theorem DlJ.right (h:DlJ w W t p root F x R bn (d+1) q nd F' y D P k A M B P1 PM P2 N) (hh:2≤halfN y.sz) (hf:nd.keys.contains k=false) (hi:atI nd.keys k=j) (h1:nd.kids[j]? =some q1) (h2:nd.kids[j+1]? =some q2) (hk:nd.keys[j]? =some kk) (hv:nd.vals[j]? =some vv) (ha:y.nd q1=some a) (hb:y.nd q2=some b) (o1:halfN y.sz≤b.keys.length) (o2:a.keys.length< halfN y.sz)
  (hk1:b.keys[0]? =some k1) (hv1:b.vals[0]? =some v1) (hc1:Chg F' W W1) (hN2:∀j,N2 j→W.heap.size≤j) (hN3:∀j,N3 j→W.heap.size≤j)
  (hfl:FlOut (fun j=>F' j∨N j∨N2 j∨N3 j) W1 w' t p root bb q2 q1 q F' N2 y b.cutF (a.addL kk vv (b.kids.take 1)) ⟨nd.keys.set j k1,nd.vals.set j v1,nd.kids⟩ e):StOut w w' t p root F x R bb d k e:=by
 have hsz:=h.rch.chg.size;have hsz1:=hc1.size
 have hGw:∀j,(F' j∨N j∨N2 j∨N3 j)→F' j∨w.heap.size≤j:=fun j hj=>by
  rcases hj with e | e | e | e
  ·exact .inl e
  ·exact .inr (h.nw j e)
  ·exact .inr (by have:=hN2 j e;omega)
  ·exact .inr (by have:=hN3 j e;omega)
 rcases hfl with ⟨rfl,y',F2,N',g1,g2,g3,g4,g5,g6,g7,g8,g9,g10,g11,g12⟩ | ⟨rfl,hfu⟩
 ·refine .inl ⟨rfl,?_⟩
  obtain⟨k1',v1',w1,w2,w3⟩:=h.ways.fillR hf hi h1 h2 hk hv ha hb hh o1 (by omega);rw[hk1] at w1;cases w1;rw[hv1] at w2;cases w2;obtain⟨P',A',M',B',P1',PM',P2',hp,g⟩:=w3 y'.nd g9 g8 g10 fun i _ i1 i2 i3=>g11 i i2 i1 i3
  exact⟨_,_,_,_,_,_,_,_,_,_,_,_,_,h.step g1 (Chg.trans (hc1.mono fun j _ e=> .inl e) g2 fun _ _ e=>e) hGw (fun j hj=>(g3 j hj).imp id fun e=>by omega) g7 g g4 g5 (fun j hj=>(g6 j hj).elim (fun e=>by have:=hN2 j e;omega) fun e=>by omega) (.inl (by simp only[Nd.addL,List.length_append,List.length_singleton];have:=h.ways.tr.kid_occ h.ways.nd h1 ha;omega)) (by rw[g12,h.cnt,hp.length_eq]) (by rw[hp.length_eq];exact Nat.le_refl _)⟩
 ·exact .inr ⟨rfl,h.fail hc1 (fun j e=> .inl e) hfu hGw⟩
theorem DlJ.mg (h:DlJ w W t p root F x R bn (d+1) q nd F' y D P k A M B P1 PM P2 N) (hh:2≤halfN y.sz) (hf:(nd.keys.eraseIdx j).contains k=false) (hi:atI (nd.keys.eraseIdx j) k=j) (h1:nd.kids[j]? =some q1) (h2:nd.kids[j+1]? =some q2) (hk:nd.keys[j]? =some kk) (hv:nd.vals[j]? =some vv) (ha:y.nd q1=some a) (hb:y.nd q2=some b) (o1:a.keys.length< halfN y.sz) (o2:b.keys.length< halfN y.sz)
  (hc1:Chg F' W W1) (hN2:∀j,N2 j→W.heap.size≤j)
  (hfl:MgOut (fun j=>F' j∨N j∨N2 j) W1 w' t p root bb q q1 q2 F' N2 y (a.one b kk vv) ⟨nd.keys.eraseIdx j,nd.vals.eraseIdx j,nd.kids.eraseIdx (j+1)⟩ (q=root∧nd.keys.length=1) e):StOut w w' t p root F x R bb d k e:=by
 have hsz:=h.rch.chg.size;have hsz1:=hc1.size
 have hGw:∀j,(F' j∨N j∨N2 j)→F' j∨w.heap.size≤j:=fun j hj=>by
  rcases hj with e | e | e
  ·exact .inl e
  ·exact .inr (h.nw j e)
  ·exact .inr (by have:=hN2 j e;omega)
 have oa:=h.ways.tr.kid_occ h.ways.nd h1 ha;have ob:=h.ways.tr.kid_occ h.ways.nd h2 hb;have hol:halfN y.sz≤(a.one b kk vv).keys.length:=by simp only[Nd.one,List.length_append,List.length_cons];omega
 have hjl:=(List.getElem?_eq_some_iff.1 hk).1;rcases hfl with ⟨rfl,y',F2,N',g1,g2,g3,g4,g5,g6,g7⟩ | ⟨rfl,hfu⟩
 ·refine .inl ⟨rfl,?_⟩
  rcases g7 with ⟨⟨l1,l2⟩,g8,g9,g10,g11⟩ | ⟨l1,g8,g9,g9b,g10,g11⟩
  case' _=>
   -- the root's last key
   obtain rfl:j=0:=by omega
   have hd:d+1=D:=by
    rcases h.room with e | e
    ·omega
    ·exact e
   obtain⟨hke,hve⟩:nd.keys=[kk]∧nd.vals=[vv]:=by
    have hvl:=(h.bt.gp.fit h.ways.nd).1.vals;constructor
    ·match hks:nd.keys,l2,hk with
     | [z],_,hk=>simp at hk;rw[hk]
    ·match hvs:nd.vals,(by omega:nd.vals.length=1),hv with
     | [z],_,hv=>simp at hv;rw[hv]
   obtain⟨hqr,w3⟩:=h.ways.shrunk hd h1 h2 hke hve ha hb (by omega);obtain⟨P',hp,g⟩:=w3 y'.nd (by rw[hqr];exact g9) fun i _ i1 i2 i3=>g10 i i1 i2 (by rw[←hqr];exact i3)
  rotate_left
  case' _=>
   have h2k:2≤nd.keys.length:=by
    rcases h.room with e | e
    ·omega
    ·by_cases hq:nd.keys.length=1
     ·obtain⟨hqr, -⟩:=h.ways.top e
      exact absurd ⟨hqr,hq⟩ l1
     ·omega
   obtain⟨P',A',M',B',P1',PM',P2',hp,g⟩:=h.ways.merged hf hi h1 h2 hk hv ha hb hh (by omega) h.room h2k y'.nd g9 g9b fun i _ i1 i2 i3=>g10 i i1 i2 i3
  rotate_left
  all_goals
   have hpl:=hp.length_eq;simp only[List.length_cons] at hpl;exact⟨_,_,_,_,_,_,_,_,_,_,_,_,_,h.step g1 (Chg.trans (hc1.mono fun j _ e=> .inl e) g2 fun _ _ e=>e) hGw (fun j hj=>(g3 j hj).imp id fun e=>by omega) g6 g g8 g4 (fun j hj=>(g5 j hj).elim (fun e=>by have:=hN2 j e;omega) fun e=>by omega) (.inl hol) (by have:=h.cnt;omega) (by omega)⟩
 ·exact .inr ⟨rfl,h.fail hc1 (fun j e=> .inl e) hfu hGw⟩
end
end
end
section
open Go.RowKit Go.Maps
def TwOut (w w':World) (t p root q1 q2:Nat) (F:Nat→Prop) (x:Rp) (na nb:Nd) (e:Ending):Prop:=
 ∃ba bb Na Nb,e= .returned (.tuple #[.pointer (some ⟨ba,0,none⟩),.pointer (some ⟨bb,0,none⟩),.int .i64 0])∧NdOwn w' Na ba q1 na∧NdOwn w' Nb bb q2 nb∧(∀j,Na j→w.heap.size≤j)∧(∀j,Nb j→w.heap.size≤j)∧(∀j,Na j→¬Nb j)∧BT w' t p root F x∧Chg F w w'
theorem btwo_any (t p root bn qn i q1 q2:Nat) (F N:Nat→Prop) (x:Rp) (nd na nb:Nd) (w:World) (hb:BT w t p root F x) (hn:NdAt w N bn qn nd) (hNF:∀j,N j→¬F j) (h1:nd.kids[i]? =some q1) (h2:nd.kids[i+1]? =some q2) (ha:x.nd q1=some na) (hbb:x.nd q2=some nb) (hl:nd.kids.length≤400) :
  Calls prog 107 #[.pointer (some ⟨t,0,none⟩),.pointer (some ⟨bn,0,none⟩),.int .i64 i] w fun e w'=>TwOut w w' t p root q1 q2 F x na nb e:=by
 obtain⟨Ak,ck,Av,cv,Ac,cc,hr⟩:=hn.rd;obtain⟨g,off,rfl,hg,hx⟩:=hr.2.2.2.1.2 (by have:=(List.getElem?_eq_some_iff.1 h1).1;omega);have hc1:w.cell? ⟨g,off+i,none⟩=some (.int .i64 q1):=hx i _ (by simp[nv,h1]);obtain⟨d9,f9,s9⟩:=hr.1.facts;obtain⟨p1,u1,v1,y1⟩:=Rp.nd_some ha;obtain⟨p2,u2,v2,y2⟩:=Rp.nd_some hbb
 have hld:=bload_any t p root q1 F x p1 na w hb u1 v1 y1;have l1:(i:Int)< (nd.kids.length:Int):=by have:=(List.getElem?_eq_some_iff.1 h1).1;omega
 have l2:((i+1:Nat):Int)< (nd.kids.length:Int):=by have:=(List.getElem?_eq_some_iff.1 h2).1;omega
 have hii:IntKind.i64.wrap ((i:Int)+1)=((i+1:Nat):Int):=by rw[IntWalk.i64_in _ ⟨by omega,by omega⟩];omega
 have H:=yH (yA5 hld hb hr hNF (yA4 h2 u2 v2 y2));obtain⟨m,hm⟩:∃m,i+1=m:=⟨_,rfl⟩;rw[hm] at hii l2;have Hm:=yH hm;clear hld hb hn hr hNF h1 h2 ha hbb u1 v1 y1 u2 v2 y2 hx hg hm;go_enter func107,ntmps107
 go_wp2_with fail
 refine H.out.1.mono ?_;rintro e w1 ⟨ba,Na,rfl,hA,hAn,hb1,hc⟩;have hr1:=H.out.2.2.1.chg hc H.out.2.2.2.1;have hld2:=bload_any t p root q2 F x p2 nb w1 hb1 (yP4 H.out).2.1 (yP6 H.out).1 (yP6 H.out).2
 have hc2:w1.cell? ⟨g,off+m,none⟩=some (.int .i64 q2):=by
  obtain⟨g',off',e, -,hx⟩:=hr1.2.2.2.1.2 (by omega)
  cases e
  exact hx m _ (by rw[←Hm.out];simp[nv,(yP4 H.out).1])
 clear d9 f9 s9 hc1;obtain⟨d9,f9,s9⟩:=hr1.1.facts;have H1:=yH (yA5 hld2 hA hAn hb1 hc);clear hld2 hA hAn hb1 hc hr1;go_wp2_with fail
 refine H1.out.1.mono ?_;rintro e w2 ⟨bb,Nb,rfl,hB,hBn,hb2,hcc⟩;have hlt:=H1.out.2.1.at.lt;have hFl:=H.out.2.1.gp.lt;have hsz:=(yP4 H1.out).size
 have hout:TwOut w w2 t p root q1 q2 F x na nb (.returned (.tuple #[.pointer (some ⟨ba,0,none⟩),.pointer (some ⟨bb,0,none⟩),.int .i64 0])):=
  ⟨ba,bb,Na,Nb,rfl,H1.out.2.1.chg hcc (fun j hj e=>by have:=H1.out.2.2.1 j hj;have:=hFl j e;omega),hB,H1.out.2.2.1,fun j hj=>by have:=hBn j hj;omega,fun j hj e=>by have:=hlt j hj;have:=hBn j e;omega,hb2,Chg.trans (yP4 H1.out) hcc fun _ _ e=>e⟩
 have HO:=yH hout;clear hout hB hBn hb2 hcc d9 f9 s9 hc2;go_wp2_with fail
 go_ret3
 exact HO.out
end
section
open Go.RowKit Go.Maps
section
variable {w W W1:World} {t p root:Nat} {F:Nat→Prop} {x:Rp} {R:List KV} {bn d q:Nat} {nd:Nd} {F':Nat→Prop} {y:Rp} {D:Nat} {P:List Nat} {k:Int} {A M B:List KV} {P1 PM P2:List Nat} {N N1 N2:Nat→Prop} {q1 q2 j b1 b2:Nat} {a b:Nd} {kk:Int}
theorem DlJ.z3 (h:DlJ w W t p root F x R bn d q nd F' y D P k A M B P1 PM P2 N) (hb:BT W1 t p root F' y) (h1:∀j,N1 j→W.heap.size≤j∧j< W1.heap.size) (h2:∀j,N2 j→W.heap.size≤j∧j< W1.heap.size) (h12:∀j,N1 j→¬N2 j) (hz:W.heap.size≤W1.heap.size):Z3 W1 W1 t p root F' y N N1 N2 N1:=by
 have hF:=h.bt.gp.lt;have hlt:=h.own.at.lt;have ht:=h.bt.blk.lt;have htl:=h.tl;have hp:=tab_pos h.bt.gp.tab;have hwp:1≤w.heap.size:=by omega
 exact⟨hb,fun j hj e=>by have:=hlt j hj;have:=(h1 j e).1;omega,fun j hj e=>by have:=hlt j hj;have:=(h2 j e).1;omega,h12,fun j hj=>⟨h.nF j hj,by have:=h.nw j hj;omega,by have:=h.nw j hj;omega,by have:=hlt j hj;omega⟩,fun j hj=>⟨fun e=>by have:=hF j e;have:=(h1 j hj).1;omega,by have:=(h1 j hj).1;omega,by have:=(h1 j hj).1;omega,(h1 j hj).2⟩,fun j hj=>⟨fun e=>by have:=hF j e;have:=(h2 j hj).1;omega,by have:=(h2 j hj).1;omega,by have:=(h2 j hj).1;omega,(h2 j hj).2⟩,Chg.refl _ _,fun j e=> .inl e⟩
theorem DlJ.mg0 (h:DlJ w W t p root F x R bn d q nd F' y D P k A M B P1 PM P2 N) (hb:BT W1 t p root F' y) (h1:∀j,N1 j→W.heap.size≤j∧j< W1.heap.size) (h2:∀j,N2 j→W.heap.size≤j∧j< W1.heap.size) (h12:∀j,N1 j→¬N2 j) (hz:W.heap.size≤W1.heap.size) (hn:NdOwn W1 N2 b2 q2 b):Mg W1 t p root F' y N N1 N2 b2 q2 b:=by
 have z:=h.z3 hb h1 h2 h12 hz;exact⟨hb,hn.at,z.d13,z.d23,z.f1,z.f2,fun j hj=>(z.f3 j hj).1,z.d12⟩
theorem DlJ.kids (h:DlJ w W t p root F x R bn (d+1) q nd F' y D P k A M B P1 PM P2 N) (hk:j< nd.keys.length):∃q1 q2 a b kk vv,nd.kids[j]? =some q1∧nd.kids[j+1]? =some q2∧y.nd q1=some a∧y.nd q2=some b∧nd.keys[j]? =some kk∧nd.vals[j]? =some vv∧q1≠q2∧q1≠q∧q2≠q∧(a.kids.length=0↔b.kids.length=0)∧nd.kids.length=nd.keys.length+1∧(∃c,y.now[q1]? =some c∧c.used=true)∧(∃c,y.now[q2]? =some c∧c.used=true)∧(∃c,y.now[q]? =some c∧c.used=true)∧(d=0↔a.kids.length=0):=by
 obtain⟨n',P',g1,g2,g3,g4,g5,g6⟩:=h.ways.tr;rw[h.ways.nd] at g1;cases g1;have hl:=g5.len;rw[kvs_len g2] at hl;obtain⟨q1,h1⟩:∃q1,nd.kids[j]? =some q1:=⟨_,List.getElem?_eq_getElem (by omega)⟩;obtain⟨q2,h2⟩:∃q2,nd.kids[j+1]? =some q2:=⟨_,List.getElem?_eq_getElem (by omega)⟩;obtain⟨kk,h3⟩:∃kk,nd.keys[j]? =some kk:=⟨_,List.getElem?_eq_getElem hk⟩
 obtain⟨vv,h4⟩:∃vv,nd.vals[j]? =some vv:=⟨_,List.getElem?_eq_getElem (by omega)⟩;obtain⟨M1,Q1,f1, -⟩:=g5.mem (List.mem_of_getElem? h1);obtain⟨M2,Q2,f2, -⟩:=g5.mem (List.mem_of_getElem? h2);obtain⟨a,ha, -, -,a4⟩:=f1.1.node;obtain⟨b,hb, -, -,b4⟩:=f2.1.node;obtain⟨-, -, -, -,e5⟩:=h.ways.tr.around h.ways.nd h.ways.srt h1 h2 h3 ha hb
 obtain⟨e1,e2,e3,e4⟩:=h.ways.apart;obtain⟨c1,p1,u1, -⟩:=Rp.nd_some ha;obtain⟨c2,p2,u2, -⟩:=Rp.nd_some hb;obtain⟨c3,p3,u3, -⟩:=Rp.nd_some h.ways.nd;exact⟨q1,q2,a,b,kk,vv,h1,h2,ha,hb,h3,h4,(e5 e3).1,(e5 e3).2.1,(e5 e3).2.2,a4.trans b4.symm,hl,⟨c1,p1,u1⟩,⟨c2,p2,u2⟩,⟨c3,p3,u3⟩,a4.symm⟩
theorem one_fit {sz:Nat} {vv:Int} (fa:a.Fit sz) (fb:b.Fit sz) (hl:a.keys.length+b.keys.length+1≤mostN sz) (hk:i64 kk) (hv:i64 vv) (hlf:a.kids.length=0↔b.kids.length=0):(a.one b kk vv).Fit sz:=by
 have h1:=fa.vals;have h2:=fb.vals;refine⟨by simp[Nd.one,h1,h2],by simp[Nd.one];omega,?_,fun c hc=>?_,fun c hc=>?_,fun c hc=>?_⟩
 ·by_cases e:a.kids.length=0
  ·left
   simp[Nd.one,List.eq_nil_of_length_eq_zero e,List.eq_nil_of_length_eq_zero (hlf.1 e)]
  ·right
   have e2:¬b.kids.length=0:=fun e2=>e (hlf.2 e2);simp only[Nd.one,List.length_append,List.length_cons];rcases fa.kids with g | g
   ·rw[g] at e;simp at e
   ·rcases fb.kids with g2 | g2
    ·rw[g2] at e2;simp at e2
    ·omega
 ·rcases List.mem_append.1 hc with e | e
  ·exact fa.ki c e
  ·rcases List.mem_cons.1 e with e | e
   ·exact e▸hk
   ·exact fb.ki c e
 ·rcases List.mem_append.1 hc with e | e
  ·exact fa.vi c e
  ·rcases List.mem_cons.1 e with e | e
   ·exact e▸hv
   ·exact fb.vi c e
 ·rcases List.mem_append.1 hc with e | e
  ·exact fa.ci c e
  ·exact fb.ci c e
theorem DlJ.at (h:DlJ w W t p root F x R bn d q nd F' y D P k A M B P1 PM P2 N) (hb:BT W1 t p root F' y) (hc:Chg F' W W1):DlJ w W1 t p root F x R bn d q nd F' y D P k A M B P1 PM P2 N:=
 ⟨hb,h.rch.trans ⟨hc,fun j e=> .inl e⟩,h.like,h.ways,h.own.chg hc h.nF,h.nF,h.nw,h.room,h.cnt,h.used,h.tl⟩
theorem DlJ.callL {ii ba bb:Nat} {vv:Int} {Na Nb:Nat→Prop} (h:DlJ w W t p root F x R bn (d+1) q nd F' y D P k A M B P1 PM P2 N) (ho:x.was≠none) (hf:nd.keys.contains k=false) (hi:atI nd.keys k=j+1) (hij:ii=j+1) (h1:nd.kids[j]? =some q1) (h2:nd.kids[j+1]? =some q2) (hk:nd.keys[j]? =some kk) (hv:nd.vals[j]? =some vv) (ha:y.nd q1=some a) (hb:y.nd q2=some b)
  (e12:q1≠q2) (e1n:q1≠q) (e2n:q2≠q) (hlf:a.kids.length=0↔b.kids.length=0) (hc:nd.kids.length=nd.keys.length+1) (u1:∃c,y.now[q1]? =some c∧c.used=true) (u2:∃c,y.now[q2]? =some c∧c.used=true) (un:∃c,y.now[q]? =some c∧c.used=true)
  (o1:halfN y.sz≤a.keys.length) (o2:b.keys.length< halfN y.sz) (hA:NdOwn W1 Na ba q1 a) (hB:NdOwn W1 Nb bb q2 b) (hNa:∀j,Na j→W.heap.size≤j) (hNb:∀j,Nb j→W.heap.size≤j) (hab:∀j,Na j→¬Nb j) (hbt:BT W1 t p root F' y) (hc1:Chg F' W W1) :
  Calls prog 109 #[.pointer (some ⟨t,0,none⟩),.pointer (some ⟨bn,0,none⟩),.int .i64 ii,.pointer (some ⟨ba,0,none⟩),.pointer (some ⟨bb,0,none⟩)] W1 fun e w'=>StOut w w' t p root F x R bb d k e:=by
 have hz:=h.bt.gp.szs;have hh:=half_two hz.2.2.1;have hm:=half_most hz.2.2.1;have fa:=(h.bt.gp.fit ha).1;have fb:=(h.bt.gp.fit hb).1;have fn:=(h.bt.gp.fit h.ways.nd).1;obtain⟨k1,hk1⟩:∃k1,a.keys[a.keys.length - 1]? =some k1:=⟨_,List.getElem?_eq_getElem (by omega)⟩
 obtain⟨v1,hv1⟩:∃v1,a.vals[a.keys.length - 1]? =some v1:=⟨_,List.getElem?_eq_getElem (by have:=fa.vals;omega)⟩;have hal:=hA.at.lt;have hbl:=hB.at.lt
 refine(bfromL_any t p root bn q ba q1 bb q2 ii j a.keys.length (a.keys.length - 1) kk vv k1 v1 F' N Nb Na y nd a b W1 (h.z3 hbt (fun j hj=>⟨hNb j hj,hbl j hj⟩) (fun j hj=>⟨hNa j hj,hal j hj⟩) (fun j hj e=>hab j e hj) hc1.size) (by rw[h.like.was];exact ho) (h.own.chg hc1 h.nF) hA hB hij rfl (by omega) hk hv hk1 hv1 fn fa fb hlf hc (by omega) u1 u2 un e12 e1n e2n).mono ?_;intro e w' hfl
 exact h.left hh hf hi h1 h2 hk hv ha hb o1 o2 hk1 hv1 hc1 hNb hNa hfl
theorem DlJ.callR {ba bb:Nat} {vv:Int} {Na Nb:Nat→Prop} (h:DlJ w W t p root F x R bn (d+1) q nd F' y D P k A M B P1 PM P2 N) (ho:x.was≠none) (hf:nd.keys.contains k=false) (hi:atI nd.keys k=j) (h1:nd.kids[j]? =some q1) (h2:nd.kids[j+1]? =some q2) (hk:nd.keys[j]? =some kk) (hv:nd.vals[j]? =some vv) (ha:y.nd q1=some a) (hb:y.nd q2=some b)
  (e12:q1≠q2) (e1n:q1≠q) (e2n:q2≠q) (hlf:a.kids.length=0↔b.kids.length=0) (hc:nd.kids.length=nd.keys.length+1) (u1:∃c,y.now[q1]? =some c∧c.used=true) (u2:∃c,y.now[q2]? =some c∧c.used=true) (un:∃c,y.now[q]? =some c∧c.used=true)
  (o1:halfN y.sz≤b.keys.length) (o2:a.keys.length< halfN y.sz) (hA:NdOwn W1 Na ba q1 a) (hB:NdOwn W1 Nb bb q2 b) (hNa:∀j,Na j→W.heap.size≤j) (hNb:∀j,Nb j→W.heap.size≤j) (hab:∀j,Na j→¬Nb j) (hbt:BT W1 t p root F' y) (hc1:Chg F' W W1) :
  Calls prog 110 #[.pointer (some ⟨t,0,none⟩),.pointer (some ⟨bn,0,none⟩),.int .i64 j,.pointer (some ⟨ba,0,none⟩),.pointer (some ⟨bb,0,none⟩)] W1 fun e w'=>StOut w w' t p root F x R ba d k e:=by
 have hz:=h.bt.gp.szs;have hh:=half_two hz.2.2.1;have hm:=half_most hz.2.2.1;have fa:=(h.bt.gp.fit ha).1;have fb:=(h.bt.gp.fit hb).1;have fn:=(h.bt.gp.fit h.ways.nd).1;obtain⟨k1,hk1⟩:∃k1,b.keys[0]? =some k1:=⟨_,List.getElem?_eq_getElem (by omega)⟩;obtain⟨v1,hv1⟩:∃v1,b.vals[0]? =some v1:=⟨_,List.getElem?_eq_getElem (by have:=fb.vals;omega)⟩;have hal:=hA.at.lt
 have hbl:=hB.at.lt;refine(bfromR_any t p root bn q bb q2 ba q1 j b.keys.length (b.keys.length - 1) kk vv k1 v1 F' N Na Nb y nd b a W1 (h.z3 hbt (fun j hj=>⟨hNa j hj,hal j hj⟩) (fun j hj=>⟨hNb j hj,hbl j hj⟩) hab hc1.size) (by rw[h.like.was];exact ho) (h.own.chg hc1 h.nF) hB hA rfl (by omega) (by omega) hk hv hk1 hv1 fn fb fa hlf.symm hc (by omega) u2 u1 un e12.symm e2n e1n).mono ?_
 intro e w' hfl;exact h.right hh hf hi h1 h2 hk hv ha hb o1 o2 hk1 hv1 hc1 hNa hNb hfl
theorem DlJ.callM {ba bb:Nat} {vv:Int} {Na Nb:Nat→Prop} (h:DlJ w W t p root F x R bn (d+1) q nd F' y D P k A M B P1 PM P2 N) (ho:x.was≠none) (hf:(nd.keys.eraseIdx j).contains k=false) (hi:atI (nd.keys.eraseIdx j) k=j) (h1:nd.kids[j]? =some q1) (h2:nd.kids[j+1]? =some q2) (hk:nd.keys[j]? =some kk) (hv:nd.vals[j]? =some vv) (ha:y.nd q1=some a) (hb:y.nd q2=some b)
  (e12:q1≠q2) (e1n:q1≠q) (e2n:q2≠q) (hlf:a.kids.length=0↔b.kids.length=0) (hc:nd.kids.length=nd.keys.length+1) (u1:∃c,y.now[q1]? =some c∧c.used=true) (u2:∃c,y.now[q2]? =some c∧c.used=true) (un:∃c,y.now[q]? =some c∧c.used=true)
  (o1:a.keys.length< halfN y.sz) (o2:b.keys.length< halfN y.sz) (hA:NdOwn W1 Na ba q1 a) (hB:NdOwn W1 Nb bb q2 b) (hNa:∀j,Na j→W.heap.size≤j) (hNb:∀j,Nb j→W.heap.size≤j) (hab:∀j,Na j→¬Nb j) (hbt:BT W1 t p root F' y) (hc1:Chg F' W W1) :
  Calls prog 108 #[.pointer (some ⟨t,0,none⟩),.pointer (some ⟨bn,0,none⟩),.int .i64 j,.pointer (some ⟨ba,0,none⟩),.pointer (some ⟨bb,0,none⟩)] W1 fun e w'=>StOut w w' t p root F x R ba d k e:=by
 have hz:=h.bt.gp.szs;have hh:=half_two hz.2.2.1;have hm:=half_most hz.2.2.1;have fa:=(h.bt.gp.fit ha).1;have fb:=(h.bt.gp.fit hb).1;have fn:=(h.bt.gp.fit h.ways.nd).1;obtain⟨c1,p1,p1u⟩:=u1;obtain⟨c2,p2,p2u⟩:=u2;obtain⟨cn,pn,pnu⟩:=un;have hal:=hA.at.lt;have hbl:=hB.at.lt
 refine(bmerge_any t p root bn q ba q1 bb q2 j kk vv F' N Na Nb y nd a b cn c1 c2 W1 (h.mg0 hbt (fun j hj=>⟨hNa j hj,hal j hj⟩) (fun j hj=>⟨hNb j hj,hbl j hj⟩) hab hc1.size hB) (by rw[h.like.was];exact ho) (h.own.chg hc1 h.nF) hA hk hv hc fn fb (one_fit fa fb (by omega) (fn.ki _ (List.mem_of_getElem? hk)) (fn.vi _ (List.mem_of_getElem? hv)) hlf) pn pnu p1 p1u p2 p2u e12 e1n e2n).mono ?_
 intro e w' hfl;exact h.mg hh hf hi h1 h2 hk hv ha hb o1 o2 hc1 hNa hfl
end
def FiOut (w w':World) (t p root:Nat) (F:Nat→Prop) (x:Rp) (R:List KV) (d:Nat) (k:Int) (e:Ending):Prop:=
 ∃b,(e= .returned (.tuple #[.pointer (some ⟨b,0,none⟩),.int .i64 0])∧DlN w w' t p root F x R b d k)∨(e= .returned (.tuple #[.pointer (some ⟨b,0,none⟩),.int .i64 21])∧Full w w' t p root F x 0)
end
section
open Go.RowKit Go.Maps
theorem at_less {l:List Int} {k kk:Int} {j:Nat} (hs:l.Pairwise (· < ·)) (hi:atI l k=j+1) (hk:l[j]? =some kk):kk< k:=
 (atI_split l k hs).1 kk (by rw[hi];exact List.mem_of_getElem? (show(l.take (j+1))[j]? =some kk by rw[List.getElem?_take,if_pos (by omega)];exact hk))
theorem at_more {l:List Int} {k kk:Int} {j:Nat} (hs:l.Pairwise (· < ·)) (hf:l.contains k=false) (hi:atI l k=j) (hk:l[j]? =some kk):k< kk:=
 atI_missed hs hf kk (by rw[hi];exact List.mem_of_getElem? (show(l.drop j)[0]? =some kk by rw[List.getElem?_drop];exact hk))
theorem bfill_any {w W:World} {t p root:Nat} {F:Nat→Prop} {x:Rp} {R:List KV} {bn d q:Nat} {nd:Nd} {F':Nat→Prop} {y:Rp} {D:Nat} {P:List Nat} {k:Int} {A M B:List KV} {P1 PM P2:List Nat} {N:Nat→Prop} {ii c:Nat} {kd:Nd}
  (h:DlJ w W t p root F x R bn (d+1) q nd F' y D P k A M B P1 PM P2 N) (ho:x.was≠none) (hf:nd.keys.contains k=false) (hi:atI nd.keys k=ii) (hkid:nd.kids[ii]? =some c) (hkd:y.nd c=some kd) (hlow:kd.keys.length< halfN y.sz) :
  Calls prog 72 #[.pointer (some ⟨t,0,none⟩),.pointer (some ⟨bn,0,none⟩),.int .i64 ii] W fun e w'=>FiOut w w' t p root F x R d k e:=by
 have hz:=h.bt.gp.szs;have hhf:=bhalf_any t p root F' y W h.bt;have hks:=h.ways.tr.keys h.ways.nd h.ways.srt;have hil:ii≤nd.keys.length:=by rw[←hi];exact atI_le _ _
 have hkl:nd.keys.length≤300:=by have h1:=(h.bt.gp.fit h.ways.nd).1.most;unfold mostN at h1;omega
 have hh3:halfN y.sz≤300:=by unfold halfN mostN;omega
 have h1k:1≤nd.keys.length:=by
  obtain⟨n',P',g1,g2,g3,g4,g5,g6⟩:=h.ways.tr;rw[h.ways.nd] at g1;cases g1;exact g4
 have H:=yH (yA5 h ho hf hi (yA4 hkid hkd hlow hks));have HH:=yH hhf;have Hh1:=yH h1k;clear h ho hf hi hkid hkd hlow hks hhf hz h1k;go_enter func72,ntmps72
 by_cases h0:ii=0
 case' _=>
  obtain⟨g1,g2,g3,g4,g5,g6,hrn⟩:=H.out.1.own.at.rd;obtain⟨d9,f9,s9⟩:=hrn.1.facts;clear hrn;have t2:(ii:Int)≤0:=by omega
  have t2b:ii≤0:=by omega
  have t4:(ii:Int)< (nd.keys.length:Int):=by have:=Hh1.out;omega
  have t4b:ii< nd.keys.length:=by have:=Hh1.out;omega
  clear h0;go_wp2_with (go_at_call 71;(refine HH.out.mono ?_);rintro e w1 ⟨rfl,rfl⟩)
  obtain⟨q1r,q2r,ar,br,kkr,vvr,k1r,k2r,k3r,k4r,k5r,k6r,k7r,k8r,k9r,m1r,m2r,m3r,m4r,m5r,m6r⟩:=H.out.1.kids (j:=ii) (by omega);obtain rfl:c=q1r:=by rw[(yP4 H.out).1] at k1r;cases k1r;rfl
  obtain rfl:kd=ar:=by rw[(yP4 H.out).2.1] at k3r;cases k3r;rfl
  have htwr:=btwo_any t p root bn q ii c q2r F' N y nd kd br W H.out.1.bt H.out.1.own.at H.out.1.nF k1r k2r k3r k4r (by omega);have HKr:=yH (yA5 htwr k1r k2r k3r (yA5 k4r k5r k6r k7r (yA5 k8r k9r m1r m2r (yA3 m3r m4r m5r))));clear htwr k1r k2r k3r k4r k5r k6r k7r k8r k9r m1r m2r m3r m4r m5r m6r;go_wp2_with fail
  refine HKr.out.1.mono ?_;rintro e wr ⟨bar,bbr,Nar,Nbr,rfl,hAr,hBr,hNar,hNbr,habr,hbr,hcr⟩;obtain⟨g1r,g2r,g3r,g4r,g5r,g6r,hrdr⟩:=hBr.at.rd;clear d9 f9 s9;obtain⟨d9,f9,s9⟩:=hrdr.1.facts;have HMr:=yH (yA5 hAr hBr hNar hNbr (yA3 habr hbr hcr));clear hAr hBr hNar hNbr habr hbr hcr hrdr;by_cases or:halfN y.sz≤br.keys.length
  case' _=>
   have t3:((halfN y.sz:Nat):Int)≤(br.keys.length:Int):=by omega
   have hcl:=H.out.1.callR H.out.2.1 H.out.2.2.1 H.out.2.2.2.1 HKr.out.2.1 HKr.out.2.2.1 (yP4 HKr.out).2.1 (yP6 HKr.out).1 HKr.out.2.2.2.1 (yP4 HKr.out).1 (yP6 HKr.out).2.1 (yP8 HKr.out).1 (yP8 HKr.out).2.1 (yP10 HKr.out).1 (yP10 HKr.out).2.1 (yP12 HKr.out).1 (yP12 HKr.out).2.1 (yP12 HKr.out).2.2 or (yP6 H.out).1 HMr.out.1 HMr.out.2.1 HMr.out.2.2.1 HMr.out.2.2.2.1 (yP4 HMr.out).1 (yP4 HMr.out).2.1 (yP6 HMr.out)
   have HC:=yH hcl;clear hcl
  rotate_left
  case' _=>
   have t3:(br.keys.length:Int)< ((halfN y.sz:Nat):Int):=by omega
   have t3b:br.keys.length< halfN y.sz:=by omega
   have hmo:=at_more (yP6 H.out).2 H.out.2.2.1 H.out.2.2.2.1 (yP4 HKr.out).2.1;have hat:=atI_erase (k:=k) (yP4 HKr.out).2.1;rw[if_neg (by omega),H.out.2.2.2.1] at hat
   have hcl:=H.out.1.callM H.out.2.1 (erase_free H.out.2.2.1) (by omega) HKr.out.2.1 HKr.out.2.2.1 (yP4 HKr.out).2.1 (yP6 HKr.out).1 HKr.out.2.2.2.1 (yP4 HKr.out).1 (yP6 HKr.out).2.1 (yP8 HKr.out).1 (yP8 HKr.out).2.1 (yP10 HKr.out).1 (yP10 HKr.out).2.1 (yP12 HKr.out).1 (yP12 HKr.out).2.1 (yP12 HKr.out).2.2 (yP6 H.out).1 (by omega) HMr.out.1 HMr.out.2.1 HMr.out.2.2.1 HMr.out.2.2.2.1 (yP4 HMr.out).1 (yP4 HMr.out).2.1 (yP6 HMr.out)
   have HC:=yH hcl;clear hcl or hmo hat
  rotate_left
  all_goals
   go_wp2_with fail
   clear d9 f9 s9
 rotate_left 2
 case' _=>
  obtain⟨j,hj⟩:∃j,ii=j+1:=⟨ii - 1,by omega⟩;have i1:IntKind.i64.wrap ((ii:Int) - 1)=(j:Int):=by rw[IntWalk.i64_in _ ⟨by omega,by omega⟩];omega
  have t2:decide ((0:Int)< (ii:Int))=true:=decide_eq_true (by omega);have t2b:(0:Int)< (ii:Int):=by omega
  have t2c:0< ii:=by omega
  have hjl:j< nd.keys.length:=by omega
  have Hj:=yH hj;clear h0 hj;go_wp2_with (go_at_call 71;(refine HH.out.mono ?_);rintro e w1 ⟨rfl,rfl⟩)
  obtain⟨q1x,q2x,ax,bx,kkx,vvx,k1x,k2x,k3x,k4x,k5x,k6x,k7x,k8x,k9x,m1x,m2x,m3x,m4x,m5x,m6x⟩:=H.out.1.kids (j:=j) (by omega);obtain rfl:c=q2x:=by have:=(yP4 H.out).1;rw[Hj.out] at this;rw[this] at k2x;cases k2x;rfl
  obtain rfl:kd=bx:=by rw[(yP4 H.out).2.1] at k4x;cases k4x;rfl
  have htwx:=btwo_any t p root bn q j q1x c F' N y nd ax kd W H.out.1.bt H.out.1.own.at H.out.1.nF k1x k2x k3x k4x (by omega);have HKx:=yH (yA5 htwx k1x k2x k3x (yA5 k4x k5x k6x k7x (yA5 k8x k9x m1x m2x (yA3 m3x m4x m5x))));clear htwx k1x k2x k3x k4x k5x k6x k7x k8x k9x m1x m2x m3x m4x m5x m6x;go_wp2_with fail
  refine HKx.out.1.mono ?_;rintro e wx ⟨bax,bbx,Nax,Nbx,rfl,hAx,hBx,hNax,hNbx,habx,hbx,hcx⟩;obtain⟨g1,g2,g3,g4,g5,g6,hrd⟩:=hAx.at.rd;obtain⟨d9,f9,s9⟩:=hrd.1.facts;clear hrd;have HMx:=yH (yA5 hAx hBx hNax hNbx (yA3 habx hbx hcx));clear hAx hBx hNax hNbx habx hbx hcx;by_cases ox:halfN y.sz≤ax.keys.length
  case' _=>
   have t3:((halfN y.sz:Nat):Int)≤(ax.keys.length:Int):=by omega
   have hcl:=H.out.1.callL (ii:=ii) H.out.2.1 H.out.2.2.1 (by rw[H.out.2.2.2.1];exact Hj.out) Hj.out HKx.out.2.1 HKx.out.2.2.1 (yP4 HKx.out).2.1 (yP6 HKx.out).1 HKx.out.2.2.2.1 (yP4 HKx.out).1 (yP6 HKx.out).2.1 (yP8 HKx.out).1 (yP8 HKx.out).2.1 (yP10 HKx.out).1 (yP10 HKx.out).2.1 (yP12 HKx.out).1 (yP12 HKx.out).2.1 (yP12 HKx.out).2.2 ox (yP6 H.out).1 HMx.out.1 HMx.out.2.1 HMx.out.2.2.1 HMx.out.2.2.2.1 (yP4 HMx.out).1 (yP4 HMx.out).2.1 (yP6 HMx.out)
   have HC:=yH hcl;clear hcl;go_wp2_with fail
   clear d9 f9 s9
  rotate_left
  case' _=>
   have t3:(ax.keys.length:Int)< ((halfN y.sz:Nat):Int):=by omega
   have t3b:ax.keys.length< halfN y.sz:=by omega
   have HX:=yH (H.out.1.at (yP4 HMx.out).2.1 (yP6 HMx.out));obtain⟨g1',g2',g3',g4',g5',g6',hrn⟩:=HX.out.own.at.rd;obtain⟨n9,nf9,ns9⟩:=hrn.1.facts;clear hrn;by_cases hlt:ii< nd.keys.length
   case' _=>
    have t4:decide ((ii:Int)< (nd.keys.length:Int))=true:=decide_eq_true (by omega);have t4b:(ii:Int)< (nd.keys.length:Int):=by omega
    obtain⟨q1r,q2r,ar,br,kkr,vvr,k1r,k2r,k3r,k4r,k5r,k6r,k7r,k8r,k9r,m1r,m2r,m3r,m4r,m5r,m6r⟩:=HX.out.kids (j:=ii) (by omega);obtain rfl:c=q1r:=by rw[(yP4 H.out).1] at k1r;cases k1r;rfl
    obtain rfl:kd=ar:=by rw[(yP4 H.out).2.1] at k3r;cases k3r;rfl
    have htwr:=btwo_any t p root bn q ii c q2r F' N y nd kd br wx HX.out.bt HX.out.own.at HX.out.nF k1r k2r k3r k4r (by omega);have HKr:=yH (yA5 htwr k1r k2r k3r (yA5 k4r k5r k6r k7r (yA5 k8r k9r m1r m2r (yA3 m3r m4r m5r))));clear htwr k1r k2r k3r k4r k5r k6r k7r k8r k9r m1r m2r m3r m4r m5r m6r;go_wp2_with fail
    refine HKr.out.1.mono ?_;rintro e wr ⟨bar,bbr,Nar,Nbr,rfl,hAr,hBr,hNar,hNbr,habr,hbr,hcr⟩;obtain⟨g1r,g2r,g3r,g4r,g5r,g6r,hrdr⟩:=hBr.at.rd;clear d9 f9 s9 n9 nf9 ns9;obtain⟨d9,f9,s9⟩:=hrdr.1.facts;have HMr:=yH (yA5 hAr hBr hNar hNbr (yA3 habr hbr hcr));clear hAr hBr hNar hNbr habr hbr hcr hrdr;by_cases or:halfN y.sz≤br.keys.length
    case' _=>
     have t3:((halfN y.sz:Nat):Int)≤(br.keys.length:Int):=by omega
     have hcl:=HX.out.callR H.out.2.1 H.out.2.2.1 H.out.2.2.2.1 HKr.out.2.1 HKr.out.2.2.1 (yP4 HKr.out).2.1 (yP6 HKr.out).1 HKr.out.2.2.2.1 (yP4 HKr.out).1 (yP6 HKr.out).2.1 (yP8 HKr.out).1 (yP8 HKr.out).2.1 (yP10 HKr.out).1 (yP10 HKr.out).2.1 (yP12 HKr.out).1 (yP12 HKr.out).2.1 (yP12 HKr.out).2.2 or (yP6 H.out).1 HMr.out.1 HMr.out.2.1 HMr.out.2.2.1 HMr.out.2.2.2.1 (yP4 HMr.out).1 (yP4 HMr.out).2.1 (yP6 HMr.out)
     have HC:=yH hcl;clear hcl
    rotate_left
    case' _=>
     have t3:(br.keys.length:Int)< ((halfN y.sz:Nat):Int):=by omega
     have t3b:br.keys.length< halfN y.sz:=by omega
     have hmo:=at_more (yP6 H.out).2 H.out.2.2.1 H.out.2.2.2.1 (yP4 HKr.out).2.1;have hat:=atI_erase (k:=k) (yP4 HKr.out).2.1;rw[if_neg (by omega),H.out.2.2.2.1] at hat
     have hcl:=HX.out.callM H.out.2.1 (erase_free H.out.2.2.1) (by omega) HKr.out.2.1 HKr.out.2.2.1 (yP4 HKr.out).2.1 (yP6 HKr.out).1 HKr.out.2.2.2.1 (yP4 HKr.out).1 (yP6 HKr.out).2.1 (yP8 HKr.out).1 (yP8 HKr.out).2.1 (yP10 HKr.out).1 (yP10 HKr.out).2.1 (yP12 HKr.out).1 (yP12 HKr.out).2.1 (yP12 HKr.out).2.2 (yP6 H.out).1 (by omega) HMr.out.1 HMr.out.2.1 HMr.out.2.2.1 HMr.out.2.2.2.1 (yP4 HMr.out).1 (yP4 HMr.out).2.1 (yP6 HMr.out)
     have HC:=yH hcl;clear hcl or hmo hat
    rotate_left
    all_goals
     go_wp2_with fail
     clear d9 f9 s9
   rotate_left 2
   case' _=>
    have t4:decide ((ii:Int)< (nd.keys.length:Int))=false:=decide_eq_false (by omega);have t4b:(nd.keys.length:Int)≤(ii:Int):=by omega
    obtain⟨q1l,q2l,al,bl,kkl,vvl,k1l,k2l,k3l,k4l,k5l,k6l,k7l,k8l,k9l,m1l,m2l,m3l,m4l,m5l,m6l⟩:=HX.out.kids (j:=j) (by omega);obtain rfl:c=q2l:=by have:=(yP4 H.out).1;rw[Hj.out] at this;rw[this] at k2l;cases k2l;rfl
    obtain rfl:kd=bl:=by rw[(yP4 H.out).2.1] at k4l;cases k4l;rfl
    have htwl:=btwo_any t p root bn q j q1l c F' N y nd al kd wx HX.out.bt HX.out.own.at HX.out.nF k1l k2l k3l k4l (by omega);have HKl:=yH (yA5 htwl k1l k2l k3l (yA5 k4l k5l k6l k7l (yA5 k8l k9l m1l m2l (yA3 m3l m4l m5l))));clear htwl k1l k2l k3l k4l k5l k6l k7l k8l k9l m1l m2l m3l m4l m5l m6l;go_wp2_with fail
    refine HKl.out.1.mono ?_;rintro e wl ⟨bal,bbl,Nal,Nbl,rfl,hAl,hBl,hNal,hNbl,habl,hbl,hcl⟩;have HMl:=yH (yA5 hAl hBl hNal hNbl (yA3 habl hbl hcl));clear hAl hBl hNal hNbl habl hbl hcl;have hle:=at_less (yP6 H.out).2 (by rw[H.out.2.2.2.1];exact Hj.out) (yP4 HKl.out).2.1;have hat:=atI_erase (k:=k) (yP4 HKl.out).2.1;rw[if_pos hle,H.out.2.2.2.1,Hj.out] at hat
    obtain rfl:ax=al:=by have e1:=HKl.out.2.1;have e2:=HKx.out.2.1;rw[e1] at e2;obtain rfl:=Option.some.inj e2;have e3:=HKl.out.2.2.2.1;have e4:=HKx.out.2.2.2.1;rw[e3] at e4;exact(Option.some.inj e4).symm
    have hcl:=HX.out.callM H.out.2.1 (erase_free H.out.2.2.1) (by omega) HKl.out.2.1 HKl.out.2.2.1 (yP4 HKl.out).2.1 (yP6 HKl.out).1 HKl.out.2.2.2.1 (yP4 HKl.out).1 (yP6 HKl.out).2.1 (yP8 HKl.out).1 (yP8 HKl.out).2.1 (yP10 HKl.out).1 (yP10 HKl.out).2.1 (yP12 HKl.out).1 (yP12 HKl.out).2.1 (yP12 HKl.out).2.2 (by omega) (yP6 H.out).1 HMl.out.1 HMl.out.2.1 HMl.out.2.2.1 HMl.out.2.2.2.1 (yP4 HMl.out).1 (yP4 HMl.out).2.1 (yP6 HMl.out)
    have HC:=yH hcl;clear hcl ox hle hat d9 f9 s9 n9 nf9 ns9;go_wp2_with fail
   rotate_left
  rotate_left 3
 rotate_left 4
 all_goals
  refine HC.out.mono ?_;rintro e w' (⟨rfl,hr⟩ | ⟨rfl,hr⟩)
  ·have HO:=yH hr
   clear hr;go_wp2_with fail
   go_ret2
   exact⟨_,.inl ⟨rfl,HO.out⟩⟩
  ·have HO:=yH hr
   clear hr;go_wp2_with fail
   go_ret2
   exact⟨_,.inr ⟨rfl,HO.out⟩⟩
end
section
def geL (L:List KV) (k:Int):List KV:=L.filter fun x=>decide (k≤x.1)
theorem geL_app (A B:List KV) (k:Int):geL (A++B) k=geL A k++geL B k:=List.filter_append ..
theorem geL_none {A:List KV} {k:Int} (h:∀x∈A,x.1< k):geL A k=[]:=filter_none fun a ha=>by have:=h a ha;simp;omega
theorem geL_all {A:List KV} {k:Int} (h:∀x∈A,k≤x.1):geL A k=A:=filter_all fun a ha=>by simpa using h a ha
theorem geL_cons {B:List KV} {k:Int} {x:KV} (h:k≤x.1):geL (x :: B) k=x :: geL B k:=by simp[geL,h]
theorem drop_app {α:Type} {G X R:List α} {k:Nat} (h:G.drop k=X++R):G.drop (k+X.length)=R:=by rw[←List.drop_drop,h,List.drop_left]
theorem drop_cons' {α:Type} {G R:List α} {a:α} {k:Nat} (h:G.drop k=a :: R):G[k]? =some a∧G.drop (k+1)=R:=by
 refine⟨?_,drop_app (X:=[a]) h⟩;have:(G.drop k)[0]? =some a:=by rw[h];rfl
 rwa[List.getElem?_drop,Nat.add_zero] at this
def Rest (rd:Nat→Option Nd) (h d:Nat) (nd:Nd) (i:Nat) (L:List KV) (P:List Nat):Prop:=
 (i≤nd.keys.length∧(d=0→L=nd.kvs.drop i∧P=[])∧∀d',d=d'+1→Fr (Tc rd h d') (nd.kids.drop i) (nd.kvs.drop i) L P)∨(i=nd.keys.length+1∧L=[]∧P=[])
section
variable {rd:Nat→Option Nd} {h d q:Nat} {nd:Nd} {M L:List KV} {P PM:List Nat} {k:Int} {i:Nat}
theorem Rest.start (t:Tr rd h d q M PM) (hn:rd q=some nd) (hs:Srt M):∃A L P,M=A++L∧(∀x∈A,x.1< k)∧P.length+1≤PM.length∧Rest rd h d nd (atI nd.keys k) L P∧(∀x∈nd.kvs.drop (atI nd.keys k),k≤x.1):=by
 have hks:=t.keys hn hs;have hsp:=atI_split nd.keys k hks
 cases d with
 | zero=>
  obtain⟨nd',g1,g2,g3,g4,rfl,rfl⟩:=t;rw[hn] at g1
  cases g1
  refine⟨nd.kvs.take (atI nd.keys k),nd.kvs.drop (atI nd.keys k),[],(List.take_append_drop _ _).symm,fst_mem (kvs_take g3 _) hsp.1,by simp,.inl ⟨atI_le _ _,fun _=>⟨rfl,rfl⟩,fun d' e=>by omega⟩,fst_mem (kvs_drop g3 _) hsp.2⟩
 | succ d=>
  obtain⟨nd',P',g1,g2,g3,g4,g5,rfl⟩:=t;rw[hn] at g1
  cases g1
  have hcl:=g5.len;rw[kvs_len g2] at hcl;have hil:=atI_le nd.keys k;have f:=g5;rw[←List.take_append_drop (atI nd.keys k) nd.kids,←List.take_append_drop (atI nd.keys k) nd.kvs] at f;obtain⟨A,PA,L,PL,k1,k2,rfl,rfl⟩:=f.cutl (by rw[List.length_take,List.length_take,kvs_len g2];omega)
  refine⟨A,L,PL,rfl,?_,by simp,.inl ⟨hil,fun e=>by omega,fun d' e=>by cases e;exact k2⟩,fst_mem (kvs_drop g2 _) hsp.2⟩;exact(Fr.sides (M:=L) (B:=[]) (PB:=[]) k1 Suf.nil (by simpa using hs) (fst_mem (kvs_take g2 _) hsp.1)).1
theorem kvs_drop_at (hv:nd.vals.length=nd.keys.length) (hi:i< nd.keys.length):∃a b,nd.keys[i]? =some a∧nd.vals[i]? =some b∧nd.kvs.drop i=(a,b) :: nd.kvs.drop (i+1):=by
 obtain⟨a,ha⟩:∃a,nd.keys[i]? =some a:=⟨_,List.getElem?_eq_getElem hi⟩;obtain⟨b,hb⟩:∃b,nd.vals[i]? =some b:=⟨_,List.getElem?_eq_getElem (by omega)⟩;refine⟨a,b,ha,hb,?_⟩;obtain⟨hl,he⟩:=List.getElem?_eq_some_iff.1 (kvs_at hv ha hb);rw[List.drop_eq_getElem_cons hl,he]
theorem Rest.leaf (r:Rest rd h 0 nd i L P) (hv:nd.vals.length=nd.keys.length) (hi:i< nd.keys.length):∃a b L',nd.keys[i]? =some a∧nd.vals[i]? =some b∧(a,b)∈nd.kvs.drop i∧L=(a,b) :: L'∧Rest rd h 0 nd (i+1) L' P:=by
 obtain⟨a,b,h1,h2,h3⟩:=kvs_drop_at hv hi;rcases r with ⟨-,g, -⟩ | ⟨e, -⟩
 ·obtain⟨rfl,rfl⟩:=g rfl
  exact⟨a,b,_,h1,h2,by rw[h3];exact List.mem_cons_self,h3,.inl ⟨hi,fun _=>⟨rfl,rfl⟩,fun d' e=>by omega⟩⟩
 ·omega
theorem Rest.leaf_end (r:Rest rd h 0 nd nd.keys.length L P) (hv:nd.vals.length=nd.keys.length):L=[]∧Rest rd h 0 nd (nd.keys.length+1) [] []:=by
 rcases r with ⟨-,g, -⟩ | ⟨e, -⟩
 ·obtain⟨rfl,rfl⟩:=g rfl
  exact⟨List.drop_eq_nil_of_le (by rw[kvs_len hv];omega),.inr ⟨rfl,rfl,rfl⟩⟩
 ·omega
theorem Rest.inner (r:Rest rd h (d+1) nd i L P) (hv:nd.vals.length=nd.keys.length) (hc:nd.kids.length=nd.keys.length+1) (hi:i< nd.keys.length):∃c M Q a b L' P',nd.kids[i]? =some c∧Tc rd h d c M Q∧nd.keys[i]? =some a∧nd.vals[i]? =some b∧(a,b)∈nd.kvs.drop i∧L=M++(a,b) :: L'∧P=Q++P'∧Rest rd h (d+1) nd (i+1) L' P':=by
 obtain⟨a,b,h1,h2,h3⟩:=kvs_drop_at hv hi;rcases r with ⟨-, -,g⟩ | ⟨e, -⟩
 ·have f:=g d rfl
  have hcl:i< nd.kids.length:=by omega
  rw[List.drop_eq_getElem_cons hcl,h3] at f;obtain⟨M,Q,L',P',k1,k2,rfl,rfl⟩:=f.inv;exact⟨nd.kids[i],M,Q,a,b,L',P',List.getElem?_eq_getElem hcl,k1,h1,h2,by rw[h3];exact List.mem_cons_self,rfl,rfl,.inl ⟨hi,fun e=>by omega,fun d' e=>by cases e;exact k2⟩⟩
 ·omega
theorem Rest.inner_end (r:Rest rd h (d+1) nd nd.keys.length L P) (hv:nd.vals.length=nd.keys.length) (hc:nd.kids.length=nd.keys.length+1):∃c,nd.kids[nd.keys.length]? =some c∧Tc rd h d c L P∧Rest rd h (d+1) nd (nd.keys.length+1) [] []:=by
 rcases r with ⟨-, -,g⟩ | ⟨e, -⟩
 ·have f:=g d rfl
  have hcl:nd.keys.length< nd.kids.length:=by omega
  rw[List.drop_eq_getElem_cons hcl,show nd.kvs.drop nd.keys.length=[] from List.drop_eq_nil_of_le (by rw[kvs_len hv];exact Nat.le_refl _),show nd.kids.drop (nd.keys.length+1)=[] from List.drop_eq_nil_of_le (by omega)] at f;generalize hK:[nd.kids[nd.keys.length]]=K at f
  generalize hV:([]:List KV)=V at f
  cases f with
  | one h1=>cases hK;exact⟨_,List.getElem?_eq_getElem hcl,h1,.inr ⟨rfl,rfl,rfl⟩⟩
  | cons h1 h2=>cases hV
 ·omega
end
end
section
open Go.RowKit Go.Maps
theorem Fr.first {R:Nat→List KV→List Nat→Prop} {ks:List Nat} {kv L:List KV} {P:List Nat} (h:Fr R ks kv L P):∃q M Q T,ks[0]? =some q∧R q M Q∧L=M++T:=by
 cases h with
 | one h1=>exact⟨_,_,_,[],rfl,h1,by simp⟩
 | cons h1 h2=>exact⟨_,_,_,_,rfl,h1,rfl⟩
theorem Fr.last {R:Nat→List KV→List Nat→Prop} {ks:List Nat} {kv L:List KV} {P:List Nat} (h:Fr R ks kv L P):∃q M Q T,ks[kv.length]? =some q∧R q M Q∧L=T++M:=by
 induction h with
 | one h1=>exact⟨_,_,_,[],rfl,h1,by simp⟩
 | cons h1 _ ih=>
  obtain⟨q,M,Q,T,g1,g2,g3⟩:=ih;exact⟨q,M,Q,_,by simpa using g1,g2,by rw[g3,←List.cons_append,←List.append_assoc]⟩
def edA:Option KV→Int
 | some y=>y.1
 | none=>0
def edB:Option KV→Int
 | some y=>y.2
 | none=>0
def edE:Option KV→Int
 | some _=>0
 | none=>14
theorem Tc.some {rd:Nat→Option Nd} {h d q:Nat} {L:List KV} {P:List Nat} (t:Tc rd h d q L P) (hh:2≤h):L≠[]:=fun e=>by
 have:=Tc.deep hh t;have hp:2 ^ 1≤2 ^ (d+1):=Nat.pow_le_pow_right (by omega) (by omega);rw[e] at this;simp at this
 try omega
theorem head_app {M T:List KV} (h:M≠[]):(M++T).head? =M.head? :=by
 cases M with
 | nil=>exact absurd rfl h
 | cons a t=>rfl
theorem last_app {M T:List KV} (h:M≠[]):(T++M).getLast? =M.getLast? :=by
 rw[List.getLast?_append]
 cases hM:M.getLast? with
 | none=>exact absurd (List.getLast?_eq_none_iff.1 hM) h
 | some a=>rfl
theorem bedge_false (t p root c0' D:Nat) (L:List KV) (P:List Nat) (F:Nat→Prop) (x:Rp) (w:World) (hb:BT w t p root F x) (hs:Tr x.nd (halfN x.sz) D c0' L P) (hD:D< 40) :
  Calls prog 91 #[.pointer (some ⟨t,0,none⟩),.int .i64 c0',.bool false] w fun e w'=>e= .returned (.tuple #[.int .i64 (edA L.head?),.int .i64 (edB L.head?),.int .i64 (edE L.head?)])∧BT w' t p root F x∧Chg F w w':=by
 have hh:=half_two hb.gp.szs.2.2.1;have H:=yH (yA3 hb hs hh);clear hb hs hh;go_enter func91,ntmps91
 go_wp2
 go_loopg [1,12] (D+1) (fun q pg i wr=>∃ (d c:Nat) (M:List KV) (PM:List Nat),q=d+1∧d≤D∧pg= .int .i64 c∧i= .int .i64 ((D - d:Nat):Int)∧BT wr t p root F x∧Chg F w wr∧Tr x.nd (halfN x.sz) d c M PM∧L.head? =M.head?)
 case atStart=>exact⟨D,c0',L,P,rfl,Nat.le_refl _,rfl,by simp,H.out.1,Chg.refl _ _,H.out.2.1,rfl⟩
 case round=>
  obtain⟨d,c,M,PM,rfl,hd,rfl,rfl,hbt,hc,ht,hM⟩:=hrel;obtain⟨j,hj⟩:∃j,D - d=j:=⟨_,rfl⟩;have hjl:(j:Int)< 40:=by omega
  rw[hj];obtain⟨nd,hnd,hvl, -,hdz⟩:=ht.node;have hft:=hbt.gp.fit hnd;obtain⟨cp,hp1,hp2,hp3⟩:=Rp.nd_some hnd;have hld:=bload_any t p root c F x cp nd wr hbt hp1 hp2 hp3;have hkl:nd.keys.length≤300:=by have h1:=hft.1.most;have h2:=hbt.gp.szs;unfold mostN at h1;omega
  have HW:=yH (yA5 hld hc ht hM (yA4 hnd hj hd hvl));clear hbt hc ht hM hft hp1 hp2 hp3 hld hj hd hvl hnd;go_wp2_with fail
  refine HW.out.1.mono ?_;rintro e w3 ⟨b,N,rfl,hn3,hNn,hbt3,hc3⟩;have hlf:=leaf_any b c nd N w3 hn3.at;have H3:=yH (yA4 hlf hn3 hbt3 (Chg.trans HW.out.2.1 hc3 fun _ _ e=>e));obtain⟨Ak,ck,Av,cv,Ac,cc,b1,b2,b3,b4, -⟩:=hn3.at;clear hlf hn3 hNn hbt3 hc3;by_cases h0:nd.kids.length=0
  ·obtain rfl:d=0:=hdz.1 h0
   have t1:decide (nd.kids.length=0)=true:=decide_eq_true h0
   have hML:M=nd.kvs:=by
    obtain⟨nd',g1, -, -, -,g5, -⟩:=HW.out.2.2.1;rw[(yP4 HW.out).1] at g1
    cases g1
    exact g5
   by_cases hk0:nd.keys.length=0
   ·have hk:nd.keys=[]:=List.eq_nil_of_length_eq_zero hk0
    have hL0:L.head? =none:=by rw[HW.out.2.2.2.1,hML];unfold Nd.kvs;rw[hk];rfl
    rw[hk0] at b1;have t2:((0:Int)==0)=true:=rfl;obtain⟨c0,f0,s0⟩:=b1.facts;have HL0:=yH hL0;clear hML hk hL0 b1 b2 b3 b4 hk0 hdz;go_wp2_with (go_at_call 41;(refine H3.out.1.mono ?_);rintro e w5 ⟨rfl,rfl⟩)
    rw[HL0.out];refine bodyPost_ret (v:= .tuple #[.int .i64 (edA (none:Option KV)),.int .i64 (edB (none:Option KV)),.int .i64 (edE (none:Option KV))]) (by simp[results,results91,go_sem,edA,edB,edE]) rfl ?_;exact⟨rfl,H3.out.2.2.1,H3.out.2.2.2⟩
   ·obtain⟨m,hm⟩:∃m,nd.keys.length=m+1:=⟨nd.keys.length - 1,by omega⟩
    have hvm:nd.vals.length=m+1:=(yP6 HW.out).2.trans hm;obtain⟨a,ha⟩:∃a,nd.keys[0]? =some a:=⟨_,List.getElem?_eq_getElem (by omega)⟩;obtain⟨v,hv⟩:∃v,nd.vals[0]? =some v:=⟨_,List.getElem?_eq_getElem (by omega)⟩;have hkv:=kvs_at (yP6 HW.out).2 ha hv
    have hL0:L.head? =some (a,v):=by
     rw[HW.out.2.2.2.1,hML];rw[List.head?_eq_getElem?];exact hkv
    obtain⟨gk,ok,rfl,hgk,hxk⟩:=b2.2 (by omega);obtain⟨gv,ov,rfl,hgv,hxv⟩:=b3.2 (by omega);have hck:w3.cell? ⟨gk,ok+0,none⟩=some (.int .i64 a):=hxk 0 _ (by simp[iv,ha]);have hcv:w3.cell? ⟨gv,ov+0,none⟩=some (.int .i64 v):=hxv 0 _ (by simp[iv,hv]);rw[hm,hvm] at b1;have t2:(((m+1:Nat):Int)==0)=false:=by simp;omega
    have t2':((m:Int)+1==0)=false:=by simp;omega
    obtain⟨c0,f0,s0⟩:=b1.facts;have HL0:=yH hL0;have hm3:m≤300:=by omega
    have Hdd:=yH (yA hck hcv);clear hML hL0 b1 b2 b3 b4 hk0 hdz ha hv hkv hxk hxv hgk hgv hm hvm;rw[Nat.add_zero] at hck hcv;go_wp2_with (go_at_call 41;(refine H3.out.1.mono ?_);rintro e w5 ⟨rfl,rfl⟩)
    go_quiet (fail)
    go_wp2_with fail
    rw[HL0.out];refine bodyPost_ret (v:= .tuple #[.int .i64 (edA (some (a,v):Option KV)),.int .i64 (edB (some (a,v):Option KV)),.int .i64 (edE (some (a,v):Option KV))]) (by simp[results,results91,go_sem,edA,edB,edE]) rfl ?_;exact⟨rfl,H3.out.2.2.1.grew ((Chg.refl NoF _).drewN _),H3.out.2.2.2.grew ((Chg.refl NoF _).drewN _)⟩
  ·have t1:decide (nd.kids.length=0)=false:=decide_eq_false h0
   have t1':decide (nd.kids=[])=false:=decide_eq_false fun e=>h0 (by rw[e];rfl);obtain⟨d',rfl⟩:∃d',d=d'+1:=⟨d - 1,by have hd0:d≠0:=(fun e=>h0 (hdz.2 e));omega⟩;obtain⟨nd',P',g1,g2,g3,g4,g5, -⟩:=HW.out.2.2.1;rw[(yP4 HW.out).1] at g1
   cases g1
   obtain⟨m,hm⟩:∃m,nd.keys.length=m+1:=⟨nd.keys.length - 1,by omega⟩;have hvm:nd.vals.length=m+1:=g2.trans hm;have hcl:=g5.len;rw[kvs_len g2,hm] at hcl;obtain⟨c2,M2,Q2,T2,e1,e2,e3⟩:=g5.first;skip
   have hM2:L.head? =M2.head? :=by rw[HW.out.2.2.2.1,e3];exact head_app (Tc.some e2 H.out.2.2)
   obtain⟨gc,oc,rfl,hgc,hxc⟩:=b4.2 (by omega);have hcc:w3.cell? ⟨gc,oc+0,none⟩=some (.int .i64 c2):=hxc (0) _ (by simp[nv,e1]);rw[hm,hvm,hcl] at b1;rw[Nat.add_zero] at hcc;obtain⟨c0,f0,s0⟩:=b1.facts;have hm3:m≤300:=by omega
   have H4:=yH (yA e2.1 hM2);clear g2 g3 g4 g5 e1 e2 e3 hM2 hcl b1 b2 b3 b4 hxc hgc hdz h0 hm hvm;go_wp2_with (go_at_call 41;(refine H3.out.1.mono ?_);rintro e w5 ⟨rfl,rfl⟩)
   clear c0 f0 s0 hcc;have hd4:=(yP6 HW.out).1;have hj4:=(yP4 HW.out).2.1;go_roundg (d'+1)
   case measure=>omega
   case rel=>exact⟨d',c2,M2,Q2,rfl,by omega,rfl,by congr 1;omega,H3.out.2.2.1,H3.out.2.2.2,H4.out.1,H4.out.2⟩
theorem bedge_true (t p root c0' D:Nat) (L:List KV) (P:List Nat) (F:Nat→Prop) (x:Rp) (w:World) (hb:BT w t p root F x) (hs:Tr x.nd (halfN x.sz) D c0' L P) (hD:D< 40) :
  Calls prog 91 #[.pointer (some ⟨t,0,none⟩),.int .i64 c0',.bool true] w fun e w'=>e= .returned (.tuple #[.int .i64 (edA L.getLast?),.int .i64 (edB L.getLast?),.int .i64 (edE L.getLast?)])∧BT w' t p root F x∧Chg F w w':=by
 have hh:=half_two hb.gp.szs.2.2.1;have H:=yH (yA3 hb hs hh);clear hb hs hh;go_enter func91,ntmps91
 go_wp2
 go_loopg [1,12] (D+1) (fun q pg i wr=>∃ (d c:Nat) (M:List KV) (PM:List Nat),q=d+1∧d≤D∧pg= .int .i64 c∧i= .int .i64 ((D - d:Nat):Int)∧BT wr t p root F x∧Chg F w wr∧Tr x.nd (halfN x.sz) d c M PM∧L.getLast? =M.getLast?)
 case atStart=>exact⟨D,c0',L,P,rfl,Nat.le_refl _,rfl,by simp,H.out.1,Chg.refl _ _,H.out.2.1,rfl⟩
 case round=>
  obtain⟨d,c,M,PM,rfl,hd,rfl,rfl,hbt,hc,ht,hM⟩:=hrel;obtain⟨j,hj⟩:∃j,D - d=j:=⟨_,rfl⟩;have hjl:(j:Int)< 40:=by omega
  rw[hj];obtain⟨nd,hnd,hvl, -,hdz⟩:=ht.node;have hft:=hbt.gp.fit hnd;obtain⟨cp,hp1,hp2,hp3⟩:=Rp.nd_some hnd;have hld:=bload_any t p root c F x cp nd wr hbt hp1 hp2 hp3;have hkl:nd.keys.length≤300:=by have h1:=hft.1.most;have h2:=hbt.gp.szs;unfold mostN at h1;omega
  have HW:=yH (yA5 hld hc ht hM (yA4 hnd hj hd hvl));clear hbt hc ht hM hft hp1 hp2 hp3 hld hj hd hvl hnd;go_wp2_with fail
  refine HW.out.1.mono ?_;rintro e w3 ⟨b,N,rfl,hn3,hNn,hbt3,hc3⟩;have hlf:=leaf_any b c nd N w3 hn3.at;have H3:=yH (yA4 hlf hn3 hbt3 (Chg.trans HW.out.2.1 hc3 fun _ _ e=>e));obtain⟨Ak,ck,Av,cv,Ac,cc,b1,b2,b3,b4, -⟩:=hn3.at;clear hlf hn3 hNn hbt3 hc3;by_cases h0:nd.kids.length=0
  ·obtain rfl:d=0:=hdz.1 h0
   have t1:decide (nd.kids.length=0)=true:=decide_eq_true h0
   have hML:M=nd.kvs:=by
    obtain⟨nd',g1, -, -, -,g5, -⟩:=HW.out.2.2.1;rw[(yP4 HW.out).1] at g1
    cases g1
    exact g5
   by_cases hk0:nd.keys.length=0
   ·have hk:nd.keys=[]:=List.eq_nil_of_length_eq_zero hk0
    have hL0:L.getLast? =none:=by rw[HW.out.2.2.2.1,hML];unfold Nd.kvs;rw[hk];rfl
    rw[hk0] at b1;have t2:((0:Int)==0)=true:=rfl;obtain⟨c0,f0,s0⟩:=b1.facts;have HL0:=yH hL0;clear hML hk hL0 b1 b2 b3 b4 hk0 hdz;go_wp2_with (go_at_call 41;(refine H3.out.1.mono ?_);rintro e w5 ⟨rfl,rfl⟩)
    rw[HL0.out];refine bodyPost_ret (v:= .tuple #[.int .i64 (edA (none:Option KV)),.int .i64 (edB (none:Option KV)),.int .i64 (edE (none:Option KV))]) (by simp[results,results91,go_sem,edA,edB,edE]) rfl ?_;exact⟨rfl,H3.out.2.2.1,H3.out.2.2.2⟩
   ·obtain⟨m,hm⟩:∃m,nd.keys.length=m+1:=⟨nd.keys.length - 1,by omega⟩
    have hvm:nd.vals.length=m+1:=(yP6 HW.out).2.trans hm;obtain⟨a,ha⟩:∃a,nd.keys[m]? =some a:=⟨_,List.getElem?_eq_getElem (by omega)⟩;obtain⟨v,hv⟩:∃v,nd.vals[m]? =some v:=⟨_,List.getElem?_eq_getElem (by omega)⟩;have hkv:=kvs_at (yP6 HW.out).2 ha hv
    have hL0:L.getLast? =some (a,v):=by
     rw[HW.out.2.2.2.1,hML];rw[List.getLast?_eq_getElem?,kvs_len (yP6 HW.out).2,hm];exact hkv
    obtain⟨gk,ok,rfl,hgk,hxk⟩:=b2.2 (by omega);obtain⟨gv,ov,rfl,hgv,hxv⟩:=b3.2 (by omega);have hck:w3.cell? ⟨gk,ok+m,none⟩=some (.int .i64 a):=hxk m _ (by simp[iv,ha]);have hcv:w3.cell? ⟨gv,ov+m,none⟩=some (.int .i64 v):=hxv m _ (by simp[iv,hv]);rw[hm,hvm] at b1;have t2:(((m+1:Nat):Int)==0)=false:=by simp;omega
    have t2':((m:Int)+1==0)=false:=by simp;omega
    obtain⟨c0,f0,s0⟩:=b1.facts;have HL0:=yH hL0;have hm3:m≤300:=by omega
    have Hdd:=yH (yA hck hcv);clear hML hL0 b1 b2 b3 b4 hk0 hdz ha hv hkv hxk hxv hgk hgv hm hvm;skip
    go_wp2_with (go_at_call 41;(refine H3.out.1.mono ?_);rintro e w5 ⟨rfl,rfl⟩)
    go_quiet (fail)
    go_wp2_with fail
    rw[HL0.out];refine bodyPost_ret (v:= .tuple #[.int .i64 (edA (some (a,v):Option KV)),.int .i64 (edB (some (a,v):Option KV)),.int .i64 (edE (some (a,v):Option KV))]) (by simp[results,results91,go_sem,edA,edB,edE]) rfl ?_;exact⟨rfl,H3.out.2.2.1.grew ((Chg.refl NoF _).drewN _),H3.out.2.2.2.grew ((Chg.refl NoF _).drewN _)⟩
  ·have t1:decide (nd.kids.length=0)=false:=decide_eq_false h0
   have t1':decide (nd.kids=[])=false:=decide_eq_false fun e=>h0 (by rw[e];rfl);obtain⟨d',rfl⟩:∃d',d=d'+1:=⟨d - 1,by have hd0:d≠0:=(fun e=>h0 (hdz.2 e));omega⟩;obtain⟨nd',P',g1,g2,g3,g4,g5, -⟩:=HW.out.2.2.1;rw[(yP4 HW.out).1] at g1
   cases g1
   obtain⟨m,hm⟩:∃m,nd.keys.length=m+1:=⟨nd.keys.length - 1,by omega⟩;have hvm:nd.vals.length=m+1:=g2.trans hm;have hcl:=g5.len;rw[kvs_len g2,hm] at hcl;obtain⟨c2,M2,Q2,T2,e1,e2,e3⟩:=g5.last;rw[kvs_len g2,hm] at e1;have hM2:L.getLast? =M2.getLast? :=by rw[HW.out.2.2.2.1,e3];exact last_app (Tc.some e2 H.out.2.2)
   obtain⟨gc,oc,rfl,hgc,hxc⟩:=b4.2 (by omega);have hcc:w3.cell? ⟨gc,oc+(m+1),none⟩=some (.int .i64 c2):=hxc ((m+1)) _ (by simp[nv,e1]);rw[hm,hvm,hcl] at b1;skip
   obtain⟨c0,f0,s0⟩:=b1.facts;have hm3:m≤300:=by omega
   have H4:=yH (yA e2.1 hM2);clear g2 g3 g4 g5 e1 e2 e3 hM2 hcl b1 b2 b3 b4 hxc hgc hdz h0 hm hvm;go_wp2_with (go_at_call 41;(refine H3.out.1.mono ?_);rintro e w5 ⟨rfl,rfl⟩)
   clear c0 f0 s0 hcc;have hd4:=(yP6 HW.out).1;have hj4:=(yP4 HW.out).2.1;go_roundg (d'+1)
   case measure=>omega
   case rel=>exact⟨d',c2,M2,Q2,rfl,by omega,rfl,by congr 1;omega,H3.out.2.2.1,H3.out.2.2.2,H4.out.1,H4.out.2⟩
theorem bleast_any (t p root D:Nat) (L:List KV) (P:List Nat) (F:Nat→Prop) (x:Rp) (w:World) (hb:BT w t p root F x) (hs:TS x D root L P) (hD:D< 40) :
  Calls prog 45 #[.pointer (some ⟨t,0,none⟩)] w fun e w'=>e= .returned (.tuple #[.int .i64 (edA L.head?),.int .i64 (edB L.head?),.int .i64 (edE L.head?)])∧BT w' t p root F x∧Chg F w w':=by
 obtain⟨c0,f0,s0⟩:=hb.blk.facts;have H:=yH (bedge_false t p root root D L P F x w hb hs.tr hD);clear hb hs;go_enter func45,ntmps45
 go_wp2_with fail
 refine H.out.mono ?_;rintro e w1 ⟨rfl,h1,h2⟩;have H1:=yH (yA h1 h2);clear h1 h2;go_wp2_with fail
 refine bodyPost_ret (v:= .tuple #[.int .i64 (edA L.head?),.int .i64 (edB L.head?),.int .i64 (edE L.head?)]) (by simp[results,results45,go_sem]) rfl ?_;exact⟨rfl,H1.out⟩
theorem bgreatest_any (t p root D:Nat) (L:List KV) (P:List Nat) (F:Nat→Prop) (x:Rp) (w:World) (hb:BT w t p root F x) (hs:TS x D root L P) (hD:D< 40) :
  Calls prog 46 #[.pointer (some ⟨t,0,none⟩)] w fun e w'=>e= .returned (.tuple #[.int .i64 (edA L.getLast?),.int .i64 (edB L.getLast?),.int .i64 (edE L.getLast?)])∧BT w' t p root F x∧Chg F w w':=by
 obtain⟨c0,f0,s0⟩:=hb.blk.facts;have H:=yH (bedge_true t p root root D L P F x w hb hs.tr hD);clear hb hs;go_enter func46,ntmps46
 go_wp2_with fail
 refine H.out.mono ?_;rintro e w1 ⟨rfl,h1,h2⟩;have H1:=yH (yA h1 h2);clear h1 h2;go_wp2_with fail
 refine bodyPost_ret (v:= .tuple #[.int .i64 (edA L.getLast?),.int .i64 (edB L.getLast?),.int .i64 (edE L.getLast?)]) (by simp[results,results46,go_sem]) rfl ?_;exact⟨rfl,H1.out⟩
end
end Go.Proofs.YtpkkcicaeldodaaGreatDoor
