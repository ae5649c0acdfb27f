/- Texts Ve, Vh, Uf, Ur, Vi, Law, Ra, Ug, Vj. -/
import Derived.ProofKit
import Derived.HandedShaped
import Derived.OpenShut
import Derived.Test.YtdlgoofjechocaaGreatDoorRows
import Derived.LaidMore
import Derived.Lay
import Derived.Stop.Joined
import Derived.Lib.LaidTab
import Derived.Test.YtdlgoofjechocaaGreatDoorZ13
set_option maxHeartbeats 32000000
set_option maxRecDepth 100000
set_option linter.unusedSimpArgs false
set_option linter.unusedVariables false
namespace Go.Proofs.YtdlgoofjechocaaGreatDoor
open Go.RowKit Go.Sort Go.Shelf
theorem freeze_kp (w:World) (g n:Nat):Kp (fun k=>k=g) w (w.freeze ⟨g,0,none⟩ n):=by
 unfold World.freeze
 split
 ·exact Kp.refl _ _
 ·exact ⟨rfl,rfl,rfl,by simp,fun k hk hn=>by
   simp only [Array.getElem?_modify]
   rw [if_neg (fun e=>hn e.symm)]⟩
theorem shut_all {L:Nat→Prop} {N n:Nat} {hp:Hp} {loc:Nat→Option Value} {w w' : World} (hh:HRel L N hp loc w) (hs:w.heap.size≤w'.heap.size):HRel L n [] z1Z w' :=
 ⟨fun t o h=>(by cases h),fun t h=>rfl,fun t t' u u' b h=>(by cases h),fun b hb=>Nat.lt_of_lt_of_le (hh.inL b hb) hs,fun t u b h=>(by cases h)⟩
theorem stringC (q:Nat) (x:AV) (bs:List UInt8) (hne:bs ≠ []):MemC Tryz.prog 13 2 (hpB q x bs) [.ptr 0 0] fun hp' r=>hp' = []∧r = .str ⟨bs.toArray⟩:=fun L loc w vs hh hvs=>by
 obtain ⟨v0,rfl⟩ : ∃ v0,vs = [v0]:=by
  match vs,hvs.1 with
  | [v0],_=>exact ⟨v0,rfl⟩
 obtain ⟨p,v,l0,hbk,hp,l1,hp1,hown⟩:=z9s hh
 have h0:=hvs.2 0 _ v0 rfl rfl
 cases h0 with
 | ptr _ _ _ _ _ hv =>
 obtain rfl:=hv q l0
 have hl0:bs.length ≠ 0:=by simpa using hne
 obtain ⟨g,cap,cur,rfl,hg,hnc,hcm,hcs⟩ : ∃ g cap cur,v = .slice (some ⟨g,0,none⟩) bs.length cap∧w.heap[g]? = some (.cells cur 5 (0,0))∧bs.length≤cap∧cap≤maxLen∧cur.size=cap:=by
  rcases hown.2 with ⟨_,hz⟩|⟨g,cap,cur,hv,_,a1,a2,a3,a4,_⟩
  ·exact absurd hz hl0
  ·exact ⟨g,cap,cur,hv,a1,a2,a3,by rw [a4,Nat.mul_one]⟩
 have c1:w.drew.cell? ⟨q,1,none⟩=some (.slice (some ⟨g,0,none⟩) bs.length cap):=by
  show w.cell? _=_
  simp [World.cell?,hbk]
 have hSD:(Builtin.unsafeSliceData_ #[36] 59 #[.slice (some ⟨g,0,none⟩) bs.length cap]).run Tryz.prog w.drew = .ok (.pointer (some ⟨g,0,none⟩)) w.drew:=Go.Lib.run_unsafeSliceData_row _ _ _ _ _ _ (by omega)
 have hUS:(Builtin.unsafeString_ #[59,3] 9 #[.pointer (some ⟨g,0,none⟩),.int .i64 bs.length]).run Tryz.prog w.drew = .ok (.string ⟨bs.toArray⟩) (w.drew.freeze ⟨g,0,none⟩ bs.length) :=
  Go.Lib.run_unsafeString_row w.drew 59 3 9 5 (by kernel_rfl) (by kernel_rfl) g cur.size (by show w.shape? g=_;simp [World.shape?,hg]) bs hne (by omega) (by unfold maxLen at hcm;omega) (fun j y hy =>
   hown.cells (g:=g) rfl j (.int .u8 y.toNat) (by simp [Go.Lib.byteCells,hy]))
 suffices H:Calls Tryz.prog 13 #[.pointer (some ⟨q,0,none⟩)] w fun e w'=>e = .returned (.string ⟨bs.toArray⟩)∧w' = w.drew.freeze ⟨g,0,none⟩ bs.length by
  refine Calls.mono H ?_
  rintro e w' ⟨rfl,rfl⟩
  have hk:=freeze_kp w.drew g bs.length
  refine ⟨_,z1Z,[],_,rfl,⟨rfl,rfl⟩,shut_all hh hk.size,.zV _ rfl,⟨⟨hk.os,hk.tape,hk.output,hk.size,fun k hk' hn=>hk.block k hk' fun e=>hn (.inr ⟨1,_,l1,by rw [e];rfl⟩)⟩,fun b hb=>?_⟩⟩
  rcases hb with hb|⟨t,u,h1,_⟩
  ·exact hb.elim
  ·cases h1
 go_enter Tryz.func13,Tryz.ntmps13
 go_wp2
 go_region
 all_goals (go_wp2;go_ret;exact ⟨rfl,rfl⟩)
end Go.Proofs.YtdlgoofjechocaaGreatDoor
namespace Go.Proofs.YtdlgoofjechocaaGreatDoor
open Go.RowKit Go.Sort
theorem z9E:z0h [] = []:=rfl
theorem renC (a b:Nat) (l:List Value):(z0y l).map (AV.ren a b)=z0y l:=by
 simp [z0y,AV.z1Q]
theorem look2 (a b:AO) (t:Nat) (o:AO) (h:hpG.lookup t=some o):List.lookup t ((0,a) :: (1,b) :: hpG)=some o:=by
 have h0:=h
 unfold hpG at h
 rw [zy,zy,qP] at h
 rw [zy,zy]
 split at h
 ·rename_i e;subst e;exact h0
 ·split at h
  ·rename_i e;subst e;exact h0
  ·cases h
theorem z9x (e:Ev):z3z Tryz.prog 12 1000002 hpG [evA e] (.string (evT e)):=MemC.read (textE_mem e) z3B
theorem itoaS {x:Int} (h0 : 0≤x) (h:x≤1000000):z3z Tryz.prog 11 1000002 hpG [.int x] (.string (dI x)):=z6A (z7d h0 h)
theorem row_not (o:Bool) (h:(!o)=true):z0h [110,111,116,32,98,101,102,111,114,101,10]=z0h (hdT o).data.toList:=by
 cases o
 ·rfl
 ·cases h
theorem row_bef (o:Bool) (h:(!o)=false):z0h [98,101,102,111,114,101,10]=z0h (hdT o).data.toList:=by
 cases o
 ·cases h
 ·rfl
theorem ba_mk (z:ByteArray):(⟨z.data.toList.toArray⟩ : ByteArray)=z:=by apply z3e;simp
theorem ba_app_mk (bs:List UInt8) (z:ByteArray):(⟨(bs++z.data.toList).toArray⟩ : ByteArray)=⟨bs.toArray⟩++z:=by
 apply z3e;rw [z1P]
theorem textX_mem (l:List Ev) (i j:Int) (o:Bool) (ev:List Int) (hl:l.length≤100000) (hel:ev.length≤100000):MemC Tryz.prog 5 1000002 hpG [.p (.seq 9 (l.map evC)),.int i,.int j,rsnA o ev] fun hp' r=>hp' = hpG∧r = .p (.val (.string (rsnT l i j o ev))):=by
 have hf:=fits_ok l i j o ev hl hel
 have hlm:(l.map evC).length=l.length:=by simp
 have hzl:=z1C ev
 refine MemC.of Tryz.func5 rfl 44 rfl (by decide) ?_;simp only [qi,frOf]
 simp only [rsnA] at hf ⊢
 cases hck:chkB l i j o ev with
 | false =>
  have hE:(⟨#[]⟩ : ByteArray)=rsnT l i j o ev:=by simp [rsnT,hck]
  rw [hck] at hf
  repeat' (first|refine T.zh fun K hK=>?_|apply T.block|(refine T.reg (by kernel_rfl) fun K' hK'=>?_;simp only [bz];(repeat' (first|(with_reducible refine WL.fin ?_;apply hK';clear hK' K')|((with_reducible refine WL.step fun K2 hK2=>?_);simp only [simprocAttr,az,hlm];(repeat' (first|with_reducible (first|(apply hK2;clear hK2 K2)|apply And.intro|intro hb)|((with_reducible first|apply zl|apply zm);case h=>exact CallV.plain (Ent.of Tryz.func9 (by kernel_rfl) rfl) (hf) (by simp [AV.okB]))))))))|apply T.skip|apply T.exit|refine T.zg rfl ?_|refine T.zf rfl ?_|refine T.cond rfl (fun hc=>?_) (fun hc=>?_)|apply T.ret|simp only [zb,za,reduceIte,Nat.reduceEqDiff]|((repeat ((fail_if_success apply hK);clear hK K));apply hK;clear hK K))
  all_goals (refine FinM.ret (s':=⟨[(8,.p (.val (.string (rsnT l i j o ev))))],hpG,44,1000002⟩) (r := .p (.val (.string (rsnT l i j o ev)))) (.inr rfl) Tryz.results5 (by refine zk.of' rfl ?_;simp only [wks,reduceIte,Nat.reduceEqDiff,ASt.okB,AV.okB,Nat.reduceLT,implies_true,hpG,hE,qa]) rfl ?_ ?_;(focus (simp only [zw,zt,zq,simprocAttr,az,];done)))
  all_goals exact ⟨rfl,rfl⟩
 | true =>
  have hE:rsnT l i j o ev=txtB l ev (hdT o):=by simp [rsnT,hck]
  have hP:=z6K.1 hck
  rw [hck] at hf
  have hh:=hdT_le o
  simp only [hpG]
  repeat' (first|refine T.zh fun K hK=>?_|apply T.block|apply T.skip|apply T.exit|refine T.zg rfl ?_|refine T.zf rfl ?_|refine T.cond rfl (fun hc=>?_) (fun hc=>?_)|apply T.ret|simp only [zb,za,reduceIte,Nat.reduceEqDiff]|((repeat ((fail_if_success apply hK);clear hK K));apply hK;clear hK K))
  (refine T.reg (by kernel_rfl) fun K' hK'=>?_;simp only [bz];(with_reducible repeat' (first|(apply WL.fin;apply hK';clear hK' K')|(refine WL.step fun K2 hK2=>?_;simp only [simprocAttr,az];repeat' (first|(apply hK2;clear hK2 K2)|apply And.intro|intro hb))));all_goals ((try simp only [zb,za,reduceIte,Nat.reduceEqDiff]);(try ((repeat ((fail_if_success apply hK);clear hK K));apply hK;clear hK K))))
  repeat' (first|refine T.zh fun K hK=>?_|apply T.block|apply T.skip|apply T.exit|refine T.zg rfl ?_|refine T.zf rfl ?_|refine T.cond rfl (fun hc=>?_) (fun hc=>?_)|apply T.ret|simp only [zb,za,reduceIte,Nat.reduceEqDiff]|((repeat ((fail_if_success apply hK);clear hK K));apply hK;clear hK K))
  (refine T.reg (by kernel_rfl) fun K' hK'=>?_;simp only [bz];(repeat' (first|(with_reducible refine WL.fin ?_;apply hK';clear hK' K')|((with_reducible refine WL.step fun K2 hK2=>?_);simp only [simprocAttr,az];(repeat' (first|with_reducible (first|(apply hK2;clear hK2 K2)|apply And.intro|intro hb)|((with_reducible first|apply zl|apply zm);case h=>exact CallV.plain (Ent.of Tryz.func9 (by kernel_rfl) rfl) (hf) (by simp [AV.okB])))))));all_goals ((try simp only [zb,za,reduceIte,Nat.reduceEqDiff]);(try ((repeat ((fail_if_success apply hK);clear hK K));apply hK;clear hK K))))
  repeat' (first|refine T.zh fun K hK=>?_|apply T.block|apply T.skip|apply T.exit|refine T.zg rfl ?_|refine T.zf rfl ?_|refine T.cond rfl (fun hc=>?_) (fun hc=>?_)|apply T.ret|simp only [zb,za,reduceIte,Nat.reduceEqDiff]|((repeat ((fail_if_success apply hK);clear hK K));apply hK;clear hK K))
  (refine T.reg (by kernel_rfl) fun K' hK'=>?_;simp only [bz];(with_reducible repeat' (first|(apply WL.fin;apply hK';clear hK' K')|(refine WL.step fun K2 hK2=>?_;simp only [simprocAttr,az];repeat' (first|(apply hK2;clear hK2 K2)|apply And.intro|intro hb))));all_goals ((try simp only [zb,za,reduceIte,Nat.reduceEqDiff]);(try ((repeat ((fail_if_success apply hK);clear hK K));apply hK;clear hK K))))
  refine T.weak (zk.newrowB _ 1000003 1 5 1 _ _ _ rfl rfl) ?_;simp only [zF,List.map_cons,List.map_nil,reduceIte,Nat.reduceEqDiff,List.set_cons_succ,List.set_cons_zero,Nat.reduceAdd]
  refine T.weak (zk.ren _ 1000003 0) ?_;simp only [ASt.ren,AV.ql,AV.qZ,AV.qH,AV.z0n,AV.z1Q,AV.z0k,AV.qI,AV.qG,AV.z1a,AV.z0m,AV.z0l,AO.z0t,AO.qK,AO.z0C,AO.z0z,List.map_cons,List.map_nil,List.filter_cons,List.filter_nil,zy,qP,reduceIte,Nat.reduceEqDiff,Nat.reduceLT,Nat.reduceBneDiff,bne_self_eq_false,Bool.and_true,Bool.and_false,Bool.true_and,Bool.false_and,Bool.and_self,Bool.false_eq_true,ne_eq,not_false_eq_true,not_true_eq_false,and_self,and_true,true_and,and_false,renC]
  refine T.weak (zk.ren _ 1000004 1) ?_;simp only [ASt.ren,AV.ql,AV.qZ,AV.qH,AV.z0n,AV.z1Q,AV.z0k,AV.qI,AV.qG,AV.z1a,AV.z0m,AV.z0l,AO.z0t,AO.qK,AO.z0C,AO.z0z,List.map_cons,List.map_nil,List.filter_cons,List.filter_nil,zy,qP,reduceIte,Nat.reduceEqDiff,Nat.reduceLT,Nat.reduceBneDiff,bne_self_eq_false,Bool.and_true,Bool.and_false,Bool.true_and,Bool.false_and,Bool.and_self,Bool.false_eq_true,ne_eq,not_false_eq_true,not_true_eq_false,and_self,and_true,true_and,and_false,renC]
  refine T.pin 0 _ rfl fun b=>?_;simp only [zF,AO.pin,List.map_cons,List.map_nil,reduceIte,Nat.reduceEqDiff]
  have w1:=z8G b (.p (.val (.pointer none))) [] ⟨#[110,111,116,32]⟩ (.inl rfl) (by decide)
  have w2:=z8G b (.p (.val (.pointer none))) [] ⟨#[98,101,102,111,114,101,10]⟩ (.inl rfl) (by decide)
  have w3:=z8G b (.ptr 0 0) [110,111,116,32] ⟨#[98,101,102,111,114,101,10]⟩ (.inr rfl) (by decide)
  simp only [hpB,z9E] at w1 w2 w3
  repeat' (first|refine T.zh fun K hK=>?_|apply T.block|(refine T.reg (by kernel_rfl) fun K' hK'=>?_;simp only [bz];(repeat' (first|(with_reducible refine WL.fin ?_;apply hK';clear hK' K')|((with_reducible refine WL.step fun K2 hK2=>?_);simp only [simprocAttr,az,hlm,hzl];(repeat' (first|with_reducible (first|(apply hK2;clear hK2 K2)|apply And.intro|intro hb)|((with_reducible refine zM 2 _ _ [0] (Ent.of Tryz.func10 (by kernel_rfl) rfl) (w1) ?_ ?_ ?_);(focus ((refine ⟨Nat.le_of_ble_eq_true rfl,?_,?_⟩ <;> simp only [pz,reduceIte,Nat.reduceEqDiff,AV.okB,Nat.reduceLT,qa]);done));(focus (simp [AV.okB];done));rintro hp' r ⟨rfl,rfl⟩;refine ⟨by simp [Kept,zy,AO.handle],?_⟩;simp only [cz,ASt.zR,AO.keep,Nat.reduceLeDiff,reduceIte,Nat.reduceEqDiff,z6G])|((with_reducible refine zM 2 _ _ [0] (Ent.of Tryz.func10 (by kernel_rfl) rfl) (w2) ?_ ?_ ?_);(focus ((refine ⟨Nat.le_of_ble_eq_true rfl,?_,?_⟩ <;> simp only [pz,reduceIte,Nat.reduceEqDiff,AV.okB,Nat.reduceLT,qa]);done));(focus (simp [AV.okB];done));rintro hp' r ⟨rfl,rfl⟩;refine ⟨by simp [Kept,zy,AO.handle],?_⟩;simp only [cz,ASt.zR,AO.keep,Nat.reduceLeDiff,reduceIte,Nat.reduceEqDiff,z6G])|((with_reducible refine zM 2 _ _ [0] (Ent.of Tryz.func10 (by kernel_rfl) rfl) (w3) ?_ ?_ ?_);(focus ((refine ⟨Nat.le_of_ble_eq_true rfl,?_,?_⟩ <;> simp only [pz,reduceIte,Nat.reduceEqDiff,AV.okB,Nat.reduceLT,qa]);done));(focus (simp [AV.okB];done));rintro hp' r ⟨rfl,rfl⟩;refine ⟨by simp [Kept,zy,AO.handle],?_⟩;simp only [cz,ASt.zR,AO.keep,Nat.reduceLeDiff,reduceIte,Nat.reduceEqDiff,z6G])))))))|apply T.skip|apply T.exit|refine T.zg rfl ?_|refine T.zf rfl ?_|refine T.cond rfl (fun hc=>?_) (fun hc=>?_)|apply T.ret|simp only [zb,za,reduceIte,Nat.reduceEqDiff]|((repeat ((fail_if_success apply hK);clear hK K));apply hK;clear hK K))
  all_goals
   refine T.qC (fun p:Nat × List UInt8=>⟨[(0,.p (.seq 9 (l.map evC))),(9,.ptr 0 0),(24,.p (.seq 1 (rowZ ev))),(25,.int ev.length),(26,.int p.1)],[(0,.boxP (some b) 38 [.ptr 0 0,.own 1]),(1,.row 5 1 (z0h p.2)),(1000000,.boxP (some 0) 57 (z0y z2z)),(1000001,.boxP (some 1) 101 (z0y z6R))],44,1000005⟩) (fun p=>p.1≤ev.length∧txtB l ev (hdT o)=txtB l (ev.drop p.1) ⟨p.2.toArray⟩∧p.2.length≤1000*(p.1+1)∧p.2 ≠ []) (fun p=>ev.length-p.1) (0,(hdT o).data.toList) ⟨Nat.zero_le _,by simp only [ba_mk];rfl,by show (hdT o).data.toList.length≤1000;rw [Array.length_toList];exact Nat.le_trans hh (by omega),by cases o <;> (intro h;cases h)⟩ (by first|(refine zk.of' rfl ?_;simp only [wks,reduceIte,Nat.reduceEqDiff,ASt.okB,AV.okB,Nat.reduceLT,implies_true,Int.natCast_zero,row_not o hc,qa,List.nil_append,List.cons_append];done)|(refine zk.of' rfl ?_;simp only [wks,reduceIte,Nat.reduceEqDiff,ASt.okB,AV.okB,Nat.reduceLT,implies_true,Int.natCast_zero,row_bef o hc,qa,List.nil_append,List.cons_append];done)) ?_
   rintro ⟨k,s⟩ ⟨hk,ht,hs,hne⟩ KL hKL
   simp only at hk ht hs hne
   by_cases hkn:k<ev.length
   ·have hd:decide ((k:Int)<(ev.length:Int))=true:=by simpa using hkn
    have hk0:(0:Int)≤(k:Int):=by omega
    obtain ⟨x,hx⟩:=zQ hkn
    obtain ⟨r0,r1⟩:=hP.rng x (List.mem_of_getElem? hx)
    have hx0:(0≤x)=True:=eq_true r0
    have m1:=qR hx
    obtain ⟨e,he⟩:=zQ (show x.toNat<l.length by omega)
    have m2:(l.map evC)[x.toNat]? = some (evC e):=by rw [List.getElem?_map,he];rfl
    simp only [evC] at m2
    have hea:evAt l x=e:=by rw [evAt,he];rfl
    have hit:=itoaS r0 (by omega:x≤1000000)
    have htx:=z9x e
    simp only [evA,evC,List.map_cons,List.map_nil] at htx
    have z1:=z8E (by omega:x≤1000000)
    have z2:=evT_le e
    have l1:(⟨#[32,32]⟩ : ByteArray).size=2:=rfl
    have l2:(⟨#[58,32]⟩ : ByteArray).size=2:=rfl
    have l3:(⟨#[10]⟩ : ByteArray).size=1:=rfl
    obtain ⟨t0,et0⟩ : ∃ z9:ByteArray,(⟨#[32,32]⟩ : ByteArray)++dI x=z9:=⟨_,rfl⟩
    have ct0:((⟨#[32,32]⟩ : ByteArray).size+(dI x).size≤9223372036854775807)=True:=eq_true (by omega)
    have bt0:t0.size=(⟨#[32,32]⟩ : ByteArray).size+(dI x).size:=by rw [← et0,ByteArray.size_append]
    obtain ⟨t1,et1⟩ : ∃ z9:ByteArray,t0++(⟨#[58,32]⟩ : ByteArray)=z9:=⟨_,rfl⟩
    have ct1:(t0.size+((⟨#[58,32]⟩ : ByteArray)).size≤9223372036854775807)=True:=eq_true (by omega)
    have bt1:t1.size=t0.size+((⟨#[58,32]⟩ : ByteArray)).size:=by rw [← et1,ByteArray.size_append]
    obtain ⟨t2,et2⟩ : ∃ z9:ByteArray,t1++evT e=z9:=⟨_,rfl⟩
    have ct2:(t1.size+(evT e).size≤9223372036854775807)=True:=eq_true (by omega)
    have bt2:t2.size=t1.size+(evT e).size:=by rw [← et2,ByteArray.size_append]
    obtain ⟨t3,et3⟩ : ∃ z9:ByteArray,t2++(⟨#[10]⟩ : ByteArray)=z9:=⟨_,rfl⟩
    have ct3:(t2.size+((⟨#[10]⟩ : ByteArray)).size≤9223372036854775807)=True:=eq_true (by omega)
    have bt3:t3.size=t2.size+((⟨#[10]⟩ : ByteArray)).size:=by rw [← et3,ByteArray.size_append]
    have hL:linB l x=t3:=by simp only [linB,hea,et0,et1,et2,et3]
    have hz3:t3.data.toList.length=t3.size:=by rw [Array.length_toList];rfl
    rw [drop_at hx,z7j,hL,← ba_app_mk] at ht
    have w4:=z8G b (.ptr 0 0) s t3 (.inr rfl) (by omega)
    simp only [hpB] at w4
    repeat' (first|refine T.zh fun K hK=>?_|apply T.block|(refine T.reg (by kernel_rfl) fun K' hK'=>?_;simp only [bz];(with_reducible repeat' (first|(apply WL.fin;apply hK';clear hK' K')|(refine WL.step fun K2 hK2=>?_;simp only [simprocAttr,az,hlm,hzl,hd,hk0,Int.toNat_natCast,m1,hx0];repeat' (first|(apply hK2;clear hK2 K2)|apply And.intro|intro hb)))))|apply T.skip|apply T.exit|refine T.zg rfl ?_|refine T.zf rfl ?_|refine T.cond rfl (fun hc=>?_) (fun hc=>?_)|apply T.ret|simp only [zb,za,reduceIte,Nat.reduceEqDiff]|((repeat ((fail_if_success apply hK);clear hK K));apply hK;clear hK K))
    refine T.drw 9 (by kernel_rfl) (by kernel_rfl) fun K' hK'=>?_;simp only [List.map_cons,List.map_nil];(repeat' (first|(with_reducible refine WL.fin ?_;apply hK';clear hK' K')|(with_reducible refine WD.fin ?_)|((with_reducible first|refine WL.step fun K2 hK2=>?_|refine WD.step fun K2 hK2=>?_);simp only [simprocAttr,az,hx0,m2,ct0,et0,ct1,et1,ct2,et2,ct3,et3];(repeat' (first|with_reducible (first|(apply hK2;clear hK2 K2)|apply And.intro|intro hb)|((with_reducible first|apply zl|apply zm);case h=>exact CallV.read 1000002 hpG _ rfl (Ent.of Tryz.func11 (by kernel_rfl) rfl) (hit) (z9A (look2 _ _)) (by simp [AV.okB]) rfl)|((with_reducible first|apply zl|apply zm);case h=>exact CallV.read 1000002 hpG _ rfl (Ent.of Tryz.func12 (by kernel_rfl) rfl) (htx) (z9A (look2 _ _)) (by simp [AV.okB]) rfl)|((with_reducible refine zM 2 _ _ [0] (Ent.of Tryz.func10 (by kernel_rfl) rfl) (w4) ?_ ?_ ?_);(focus ((refine ⟨Nat.le_of_ble_eq_true rfl,?_,?_⟩ <;> simp only [pz,reduceIte,Nat.reduceEqDiff,AV.okB,Nat.reduceLT,qa]);done));(focus (simp [AV.okB];done));rintro hp' r ⟨rfl,rfl⟩;refine ⟨by simp [Kept,zy,AO.handle],?_⟩;simp only [cz,ASt.zR,AO.keep,Nat.reduceLeDiff,reduceIte,Nat.reduceEqDiff,z6G]))))));all_goals ((try simp only [zb,za,reduceIte,Nat.reduceEqDiff]);(try ((repeat ((fail_if_success apply hK);clear hK K));apply hK;clear hK K)))
    all_goals repeat' (first|refine T.zh fun K hK=>?_|apply T.block|(refine T.reg (by kernel_rfl) fun K' hK'=>?_;simp only [bz];(with_reducible repeat' (first|(apply WL.fin;apply hK';clear hK' K')|(refine WL.step fun K2 hK2=>?_;simp only [simprocAttr,az];repeat' (first|(apply hK2;clear hK2 K2)|apply And.intro|intro hb)))))|apply T.skip|apply T.exit|refine T.zg rfl ?_|refine T.zf rfl ?_|refine T.cond rfl (fun hc=>?_) (fun hc=>?_)|apply T.ret|simp only [zb,za,reduceIte,Nat.reduceEqDiff]|((repeat ((fail_if_success apply hK);clear hK K));apply hK;clear hK K))
    refine hKL _ (k+1,s++t3.data.toList) ?_ ⟨hkn,ht,by show (s++t3.data.toList).length≤1000*(k+1+1);rw [List.length_append];omega,fun h=>hne (List.append_eq_nil_iff.1 h).1⟩ (by simp only;omega)
    refine zk.of' rfl ?_;simp only [wks,reduceIte,Nat.reduceEqDiff,ASt.okB,AV.okB,Nat.reduceLT,implies_true,zu (show k<1152921504606846976 by omega),qa]
   ·have hd:decide ((k:Int)<(ev.length:Int))=false:=by simpa using hkn
    rw [List.drop_eq_nil_of_le (by omega)] at ht
    have hE2:(⟨s.toArray⟩ : ByteArray)=rsnT l i j o ev:=(hE.trans ht).symm
    have w5:=stringC b (.ptr 0 0) s hne
    simp only [hpB] at w5
    repeat' (first|refine T.zh fun K hK=>?_|apply T.block|(refine T.reg (by kernel_rfl) fun K' hK'=>?_;simp only [bz];(repeat' (first|(with_reducible refine WL.fin ?_;apply hK';clear hK' K')|((with_reducible refine WL.step fun K2 hK2=>?_);simp only [simprocAttr,az,hlm,hzl,hd];(repeat' (first|with_reducible (first|(apply hK2;clear hK2 K2)|apply And.intro|intro hb)|((with_reducible refine zM 2 _ _ [] (Ent.of Tryz.func13 (by kernel_rfl) rfl) (w5) ?_ ?_ ?_);(focus ((refine ⟨Nat.le_of_ble_eq_true rfl,?_,?_⟩ <;> simp only [pz,reduceIte,Nat.reduceEqDiff,AV.okB,Nat.reduceLT,qa]);done));(focus (simp [AV.okB];done));rintro hp' r ⟨rfl,rfl⟩;refine ⟨by simp,?_⟩;simp only [cz,ASt.zR,AO.keep,Nat.reduceLeDiff,reduceIte,Nat.reduceEqDiff,z6G])))))))|apply T.skip|apply T.exit|refine T.zg rfl ?_|refine T.zf rfl ?_|refine T.cond rfl (fun hc=>?_) (fun hc=>?_)|apply T.ret|simp only [zb,za,reduceIte,Nat.reduceEqDiff]|((repeat ((fail_if_success apply hK);clear hK K));apply hK;clear hK K))
    all_goals (refine FinM.ret (s':=⟨[(8,.p (.val (.string (rsnT l i j o ev))))],hpG,44,1000002⟩) (r := .p (.val (.string (rsnT l i j o ev)))) (.inr rfl) Tryz.results5 (by refine zk.of' rfl ?_;simp only [wks,reduceIte,Nat.reduceEqDiff,ASt.okB,AV.okB,Nat.reduceLT,implies_true,hpG,hE2,qa]) rfl ?_ ?_;(focus (simp only [zw,zt,zq,simprocAttr,az,];done)))
    all_goals exact ⟨rfl,rfl⟩
def xlL:List Ev := [⟨0,14,0,0,1,0,0,0,0⟩,⟨0,6,1,0,0,0,0,0,0⟩,⟨0,2,2,0,0,0,0,0,0⟩,⟨0,7,1,0,0,0,0,0,0⟩,⟨1,6,1,0,0,0,0,0,0⟩,⟨1,1,2,0,0,0,0,0,0⟩]
def xmL:List Ev := [⟨0,14,0,0,1,0,0,0,0⟩,⟨0,2,2,0,0,0,0,0,0⟩,⟨1,1,2,0,0,0,0,0,0⟩]
theorem xl4:zU xlL 5 4=2:=by
 rw [← z4K (f:=fun n=>if n=5 then 1 else 0) (by omega) (fun n h1 h2=>by
  have:n=5:=by omega
  subst this;rw [z1n];rfl)]
 decide
theorem xl3:zU xlL 5 3=3:=by
 rw [← z4K (f:=fun n=>if n=5 then 1 else if n=4 then 2 else 0) (by omega) (fun n h1 h2=>by
  have:n=4∨n=5:=by omega
  rcases this with rfl|rfl
  ·rw [xl4];rfl
  ·rw [z1n];rfl)]
 decide
theorem xl2:zU xlL 5 2=4:=by
 rw [← z4K (f:=fun n=>if n=5 then 1 else if n=4 then 2 else if n=3 then 3 else 0) (by omega) (fun n h1 h2=>by
  have:n=3∨n=4∨n=5:=by omega
  rcases this with rfl|rfl|rfl
  ·rw [xl3];rfl
  ·rw [xl4];rfl
  ·rw [z1n];rfl)]
 decide
theorem xn2:nxtC xlL 5 2=3:=z9f (by rw [xl2];omega) (by
  have h:immL xlL 2 3=true:=by decide
  simp [folB,h,xl2,xl3]) (fun a ha=>by
  have h : ¬ 2<a:=by omega
  simp [folB,h])
theorem xn3:nxtC xlL 5 3=4:=z9f (by rw [xl3];omega) (by
  have h:immL xlL 3 4=true:=by decide
  simp [folB,h,xl3,xl4]) (fun a ha=>by
  have h : ¬ 3<a:=by omega
  simp [folB,h])
theorem xn4:nxtC xlL 5 4=5:=z9f (by rw [xl4];omega) (by
  have h:immL xlL 4 5=true:=by decide
  simp [folB,h,xl4,z1n]) (fun a ha=>by
  have h : ¬ 4<a:=by omega
  simp [folB,h])
theorem xl_plc:plcB xlL 2 5=true:=by decide
theorem z9i:plcB xmL 1 2=true:=by decide
theorem xl_o:expO xlL 2 5=true:=by
 have h:zU xlL (Int.toNat 5) (Int.toNat 2)=4:=xl2
 unfold expO;rw [h,xl_plc];rfl
theorem xl_e:expE xlL 2 5 = [2,3,4,5]:=by
 have h:zU xlL (Int.toNat 5) (Int.toNat 2)=4:=xl2
 unfold expE
 rw [if_pos xl_plc,if_pos (by rw [h];omega)]
 show chC xlL 2 5=_
 rw [chC,xl2]
 show 2 :: chT xlL 5 3 2=_
 simp only [chT,xn2,xn3,xn4]
theorem xm1:zU xmL 2 1=0:=by
 rw [← z4K (f:=fun n=>if n=2 then 1 else 0) (by omega) (fun n h1 h2=>by
  have:n=2:=by omega
  subst this;rw [z1n];rfl)]
 decide
theorem xm_o:expO xmL 1 2=false:=by
 have h:zU xmL (Int.toNat 2) (Int.toNat 1)=0:=xm1
 unfold expO;rw [h,z9i];rfl
theorem xm_h1:hbB xmL 2 1=false:=by
 cases h:hbB xmL 2 1 with
 | false=>rfl
 | true=>have:=z7T.2 (.inr h);rw [xm1] at this;omega
theorem xm_h0:hbB xmL 2 0=true:=hb_imm (by omega) (by decide)
theorem xm_e:expE xmL 1 2 = [0,2]:=by
 have h:zU xmL (Int.toNat 2) (Int.toNat 1)=0:=xm1
 unfold expE
 rw [if_pos z9i,if_neg (by rw [h];omega)]
 show z4j xmL ((2:Nat):Int)=_
 unfold z4j
 rw [if_pos (by decide)]
 show rgF (hbB xmL 2) 2 ++ [2]=_
 simp [z1c,z98,xm_h0,xm_h1]
theorem xm_c:chkB xmL 1 2 false (zs [0,2])=true:=by
 have:=exp_fits z9i
 rw [xm_o,xm_e] at this
 exact z3J this
theorem awake_ok:zx Tryz.prog 4 [] (.bool true):=by
 have h1:=z5O xlL 2 5 (by decide)
 have h2:=z5O xmL 1 2 (by decide)
 have h3:=same_ok true [2,3,4,5] (by decide)
 have h4:=same_ok false [0,2] (by decide)
 have h5:=fits_ok xmL 1 2 false (zs [0,2]) (by decide) (by decide)
 have x1:expX xlL 2 5=0:=by simp [expX,xl_plc]
 have x2:expX xmL 1 2=0:=by simp [expX,z9i]
 rw [xl_o,xl_e,x1] at h1
 rw [xm_o,xm_e,x2] at h2
 rw [xm_c] at h5
 simp only [xlL,xmL,rsnN,rsnA,rowI,rowZ,zs,List.map_cons,List.map_nil,evC,Int.natCast_zero,show ((1:Nat):Int)=1 from rfl,show ((2:Nat):Int)=2 from rfl,show ((3:Nat):Int)=3 from rfl,show ((4:Nat):Int)=4 from rfl,show ((5:Nat):Int)=5 from rfl] at h1 h2 h3 h4 h5
 have b6 : 6≤maxLen:=by unfold maxLen;omega
 have b4 : 4≤maxLen:=by unfold maxLen;omega
 have b3 : 3≤maxLen:=by unfold maxLen;omega
 have b2 : 2≤maxLen:=by unfold maxLen;omega
 refine zx.of Tryz.func4 rfl 57 rfl (by decide) (by simp [AV.okB]) ?_
 repeat' (first|refine T.zh fun K hK=>?_|apply T.block|(refine T.reg (by kernel_rfl) fun K' hK'=>?_;simp only [bz];(repeat' (first|(with_reducible refine WL.fin ?_;apply hK';clear hK' K')|((with_reducible refine WL.step fun K2 hK2=>?_);simp only [simprocAttr,az,b2,b4,b6,aeqF,scEq,Bool.and_self,beq_self_eq_true,Int.reduceBEq,Int.reduceToNat,List.getElem?_cons_zero,List.getElem?_cons_succ,Int.reduceLT,Int.reduceLE,Nat.reduceLT,Nat.reduceAdd,List.length_cons,List.length_nil,decide_true,decide_false,Int.toNat_one];(repeat' (first|with_reducible (first|(apply hK2;clear hK2 K2)|apply And.intro|intro hb)|((with_reducible first|apply zl|apply zm);case h=>exact CallV.plain (Ent.of Tryz.func7 (by kernel_rfl) rfl) (h1) (by simp [AV.okB]))))))))|apply T.skip|apply T.exit|refine T.zg rfl ?_|refine T.zf rfl ?_|refine T.cond rfl (fun hc=>?_) (fun hc=>?_)|apply T.ret|simp only [zb,za,reduceIte,Nat.reduceEqDiff]|((repeat ((fail_if_success apply hK);clear hK K));apply hK;clear hK K))
 refine T.drw 9 (by kernel_rfl) (by kernel_rfl) fun K' hK'=>?_;simp only [List.map_cons,List.map_nil];(repeat' (first|(with_reducible refine WL.fin ?_;apply hK';clear hK' K')|(with_reducible refine WD.fin ?_)|((with_reducible first|refine WL.step fun K2 hK2=>?_|refine WD.step fun K2 hK2=>?_);simp only [simprocAttr,az,b3,Int.reduceToNat,List.getElem?_cons_zero,List.getElem?_cons_succ,Int.reduceLT,Int.reduceLE,Nat.reduceLT,Nat.reduceAdd,List.length_cons,List.length_nil,decide_true,decide_false,Int.toNat_one];(repeat' with_reducible (first|(apply hK2;clear hK2 K2)|apply And.intro|intro hb)))));all_goals ((try simp only [zb,za,reduceIte,Nat.reduceEqDiff]);(try ((repeat ((fail_if_success apply hK);clear hK K));apply hK;clear hK K)))
 repeat' (first|refine T.zh fun K hK=>?_|apply T.block|(refine T.reg (by kernel_rfl) fun K' hK'=>?_;simp only [bz];(repeat' (first|(with_reducible refine WL.fin ?_;apply hK';clear hK' K')|((with_reducible refine WL.step fun K2 hK2=>?_);simp only [simprocAttr,az,b2,b4,b6,aeqF,scEq,Bool.and_self,beq_self_eq_true,Int.reduceBEq,Int.reduceToNat,List.getElem?_cons_zero,List.getElem?_cons_succ,Int.reduceLT,Int.reduceLE,Nat.reduceLT,Nat.reduceAdd,List.length_cons,List.length_nil,decide_true,decide_false,Int.toNat_one];(repeat' (first|with_reducible (first|(apply hK2;clear hK2 K2)|apply And.intro|intro hb)|((with_reducible first|apply zl|apply zm);case h=>exact CallV.plain (Ent.of Tryz.func7 (by kernel_rfl) rfl) (h2) (by simp [AV.okB]))|((with_reducible first|apply zl|apply zm);case h=>exact CallV.plain (Ent.of Tryz.func8 (by kernel_rfl) rfl) (h3) (by simp [AV.okB]))|((with_reducible first|apply zl|apply zm);case h=>exact CallV.plain (Ent.of Tryz.func8 (by kernel_rfl) rfl) (h4) (by simp [AV.okB]))|((with_reducible first|apply zl|apply zm);case h=>exact CallV.plain (Ent.of Tryz.func9 (by kernel_rfl) rfl) (h5) (by simp [AV.okB]))))))))|apply T.skip|apply T.exit|refine T.zg rfl ?_|refine T.zf rfl ?_|refine T.cond rfl (fun hc=>?_) (fun hc=>?_)|apply T.ret|simp only [zb,za,reduceIte,Nat.reduceEqDiff]|((repeat ((fail_if_success apply hK);clear hK K));apply hK;clear hK K))
 all_goals (refine zH.ret (.inr rfl) Tryz.results4 ?_;simp only [zw,zt,zq,simprocAttr,az,])
theorem z9L (l:List Ev) (i j:Int) (o:Bool) (ev:List Int) (hl:l.length≤100000) (hel:ev.length≤100000):z3z Tryz.prog 5 1000002 hpG [.p (.seq 9 (l.map evC)),.int i,.int j,rsnA o ev] (.string (rsnT l i j o ev)):=MemC.read (textX_mem l i j o ev hl hel) z3B
theorem law_mem (l:List Ev) (i j:Int) (o:Bool) (ev:List Int):MemC Tryz.prog 3 1000002 hpG [.p (.seq 9 (l.map evC)),.int i,.int j,rsnA o ev] fun hp' r=>hp' = hpG∧r = .p (.val (.bool true)):=by
 have hw:=awake_ok
 have hlm:(l.map evC).length=l.length:=by simp
 have hzl:=z1C ev
 by_cases hn:l.length≤40
 ·have hg:decide ((40:Int)<(l.length:Int))=false:=by simp;omega
  by_cases he:ev.length≤60
  ·have hge:decide ((60:Int)<(ev.length:Int))=false:=by simp;omega
   have h1:=z9L l i j o ev (by omega) (by omega)
   have h2:=textT_ok l i j o ev (by omega) (by omega)
   generalize rsnT l i j o ev=b at h1 h2
   refine MemC.of Tryz.func3 rfl 31 rfl (by decide) ?_;simp only [qi,frOf]
   simp only [rsnA] at h1 h2 ⊢
   repeat' (first|refine T.zh fun K hK=>?_|apply T.block|(refine T.reg (by kernel_rfl) fun K' hK'=>?_;simp only [bz];(repeat' (first|(with_reducible refine WL.fin ?_;apply hK';clear hK' K')|((with_reducible refine WL.step fun K2 hK2=>?_);simp only [simprocAttr,az,hlm,hzl,hg,hge,Bool.not_true];(repeat' (first|with_reducible (first|(apply hK2;clear hK2 K2)|apply And.intro|intro hb)|((with_reducible first|apply zl|apply zm);case h=>exact CallV.plain (Ent.of Tryz.func4 (by kernel_rfl) rfl) (hw) (by simp [AV.okB]))))))))|apply T.skip|apply T.exit|refine T.zg rfl ?_|refine T.zf rfl ?_|refine T.cond rfl (fun hc=>?_) (fun hc=>?_)|apply T.ret|simp only [zb,za,reduceIte,Nat.reduceEqDiff]|((repeat ((fail_if_success apply hK);clear hK K));apply hK;clear hK K))
   refine T.drw 9 (by kernel_rfl) (by kernel_rfl) fun K' hK'=>?_;simp only [List.map_cons,List.map_nil];(repeat' (first|(with_reducible refine WL.fin ?_;apply hK';clear hK' K')|(with_reducible refine WD.fin ?_)|((with_reducible first|refine WL.step fun K2 hK2=>?_|refine WD.step fun K2 hK2=>?_);simp only [simprocAttr,az,beq_self_eq_true];(repeat' (first|with_reducible (first|(apply hK2;clear hK2 K2)|apply And.intro|intro hb)|((with_reducible first|apply zl|apply zm);case h=>exact CallV.read 1000002 hpG _ rfl (Ent.of Tryz.func5 (by kernel_rfl) rfl) (h1) (z9A (lookG 1000002 _ (by decide))) (by simp [AV.okB]) rfl)|((with_reducible first|apply zl|apply zm);case h=>exact CallV.plain (Ent.of Tryz.func6 (by kernel_rfl) rfl) (h2) (by simp [AV.okB])))))));all_goals ((try simp only [zb,za,reduceIte,Nat.reduceEqDiff]);(try ((repeat ((fail_if_success apply hK);clear hK K));apply hK;clear hK K)))
   all_goals repeat' (first|refine T.zh fun K hK=>?_|apply T.block|(refine T.reg (by kernel_rfl) fun K' hK'=>?_;simp only [bz];(with_reducible repeat' (first|(apply WL.fin;apply hK';clear hK' K')|(refine WL.step fun K2 hK2=>?_;simp only [simprocAttr,az];repeat' (first|(apply hK2;clear hK2 K2)|apply And.intro|intro hb)))))|apply T.skip|apply T.exit|refine T.zg rfl ?_|refine T.zf rfl ?_|refine T.cond rfl (fun hc=>?_) (fun hc=>?_)|apply T.ret|simp only [zb,za,reduceIte,Nat.reduceEqDiff]|((repeat ((fail_if_success apply hK);clear hK K));apply hK;clear hK K))
   all_goals (refine FinM.ret (s':=⟨[(8,.bool true)],hpG,31,1000002⟩) (r := .p (.val (.bool true))) (.inr rfl) Tryz.results3 (by refine zk.of' rfl ?_;simp only [wks,reduceIte,Nat.reduceEqDiff,ASt.okB,AV.okB,Nat.reduceLT,implies_true,hpG,qa]) rfl ?_ ?_;(focus (simp only [zw,zt,zq,simprocAttr,az,];done)))
   all_goals exact ⟨rfl,rfl⟩
  ·have hge:decide ((60:Int)<(ev.length:Int))=true:=by simp;omega
   refine MemC.of Tryz.func3 rfl 31 rfl (by decide) ?_;simp only [qi,frOf]
   simp only [rsnA]
   repeat' (first|refine T.zh fun K hK=>?_|apply T.block|(refine T.reg (by kernel_rfl) fun K' hK'=>?_;simp only [bz];(repeat' (first|(with_reducible refine WL.fin ?_;apply hK';clear hK' K')|((with_reducible refine WL.step fun K2 hK2=>?_);simp only [simprocAttr,az,hlm,hzl,hg,hge,Bool.not_true];(repeat' (first|with_reducible (first|(apply hK2;clear hK2 K2)|apply And.intro|intro hb)|((with_reducible first|apply zl|apply zm);case h=>exact CallV.plain (Ent.of Tryz.func4 (by kernel_rfl) rfl) (hw) (by simp [AV.okB]))))))))|apply T.skip|apply T.exit|refine T.zg rfl ?_|refine T.zf rfl ?_|refine T.cond rfl (fun hc=>?_) (fun hc=>?_)|apply T.ret|simp only [zb,za,reduceIte,Nat.reduceEqDiff]|((repeat ((fail_if_success apply hK);clear hK K));apply hK;clear hK K))
   all_goals (refine FinM.ret (s':=⟨[(8,.bool true)],hpG,31,1000002⟩) (r := .p (.val (.bool true))) (.inr rfl) Tryz.results3 (by refine zk.of' rfl ?_;simp only [wks,reduceIte,Nat.reduceEqDiff,ASt.okB,AV.okB,Nat.reduceLT,implies_true,hpG,qa]) rfl ?_ ?_;(focus (simp only [zw,zt,zq,simprocAttr,az,];done)))
   all_goals exact ⟨rfl,rfl⟩
 ·have hg:decide ((40:Int)<(l.length:Int))=true:=by simp;omega
  refine MemC.of Tryz.func3 rfl 31 rfl (by decide) ?_;simp only [qi,frOf]
  simp only [rsnA]
  repeat' (first|refine T.zh fun K hK=>?_|apply T.block|(refine T.reg (by kernel_rfl) fun K' hK'=>?_;simp only [bz];(repeat' (first|(with_reducible refine WL.fin ?_;apply hK';clear hK' K')|((with_reducible refine WL.step fun K2 hK2=>?_);simp only [simprocAttr,az,hlm,hzl,hg,Bool.not_true];(repeat' (first|with_reducible (first|(apply hK2;clear hK2 K2)|apply And.intro|intro hb)|((with_reducible first|apply zl|apply zm);case h=>exact CallV.plain (Ent.of Tryz.func4 (by kernel_rfl) rfl) (hw) (by simp [AV.okB]))))))))|apply T.skip|apply T.exit|refine T.zg rfl ?_|refine T.zf rfl ?_|refine T.cond rfl (fun hc=>?_) (fun hc=>?_)|apply T.ret|simp only [zb,za,reduceIte,Nat.reduceEqDiff]|((repeat ((fail_if_success apply hK);clear hK K));apply hK;clear hK K))
  all_goals (refine FinM.ret (s':=⟨[(8,.bool true)],hpG,31,1000002⟩) (r := .p (.val (.bool true))) (.inr rfl) Tryz.results3 (by refine zk.of' rfl ?_;simp only [wks,reduceIte,Nat.reduceEqDiff,ASt.okB,AV.okB,Nat.reduceLT,implies_true,hpG,qa]) rfl ?_ ?_;(focus (simp only [zw,zt,zq,simprocAttr,az,];done)))
  all_goals exact ⟨rfl,rfl⟩
theorem law_read (l:List Ev) (i j:Int) (o:Bool) (ev:List Int):z3z Tryz.prog 3 1000002 hpG [.p (.seq 9 (l.map evC)),.int i,.int j,rsnA o ev] (.bool true):=MemC.read (law_mem l i j o ev) z3B
end Go.Proofs.YtdlgoofjechocaaGreatDoor
namespace Go.Proofs.YtdlgoofjechocaaGreatDoor
open Go.RowKit Go.Sort Go.ChangeShapes Go.WideShapes Go.ChangeAt
theorem trodAll_length {H:Type} {enc:TypeId × Value→H} {P:Program} {w:World} {base:Nat} {spare:Nat→Bool} {held:Bool} : ∀ {ts:List TypeId} {vs:List Value} {ds:List (DataW H)} {ps:List MemPlace},DataW.TrodAll enc P w base spare held ts vs ds ps→ds.length=ts.length
 | [],[],[],_,_=>rfl
 | _ :: _,_ :: _,_ :: _,_,⟨_,_,_,h,_⟩=>by simp [trodAll_length h]
theorem z3V {H:Type} {enc:TypeId × Value→H} {P:Program} {W W' : World} (hl:laidOutB P=true) (hb:Below W.heap.size W W') : ∀ {ts:List TypeId} {vs:List Value} {ds:List (DataW H)} {ps:List MemPlace},(∀ t ∈ ts,P.readableRec t=true∧t<P.types.size) →
  DataW.TrodAll enc P W 0 (fun _=>true) true ts vs ds ps→(∀ x ∈ ps,x.block<W.heap.size)→DataW.TrodAll enc P W' 0 (fun b=>decide (b<W.heap.size)) true ts vs ds ps
 | [],[],[],_,_,h,_=>h
 | t :: _,_ :: _,_ :: _,_,hT,⟨p,q,h1,h2,e⟩,hs =>
  ⟨p,q,Below.trod hl (hT t (List.mem_cons.2 (.inl rfl))).1 (hT t (List.mem_cons.2 (.inl rfl))).2 h1 hb (fun x hx=>hs x (by rw [e];exact List.mem_append_left _ hx)),
   z3V hl hb (fun t ht=>hT t (List.mem_cons.2 (.inr ht))) h2 (fun x hx=>hs x (by rw [e];exact List.mem_append_right _ hx)),e⟩
theorem law_post {H:Type} {enc:TypeId × Value→H} {P:Program} {f:Func} {s:ChangeSpec} {B:TypeId} (hl:laidOutB P=true) (hps : ∀ t ∈ f.params.toList,P.readableRec t=true∧t<P.types.size) (hres:f.resultTypes = #[B]) (hB:P.underlying B=some .bool)
  {W W' : World} (hb:Below W.heap.size W W') {args:Array Value} {ds gs:List (DataW H)} {before:List MemPlace} (hv:s.vars = []) (hW:DataW.Whole enc P f.params.toList s.vars false W args.toList ds gs before)
  (hspec : ∀ ds:List (DataW H),ds.length=f.params.size→s.fn H ds = { results := [.lit (.bool true)],args:=ds }) :
  s.post enc P f false true false false W args (.bool true) W':=by
 have hW':=hW
 have hlt:=hW.lt
 rw [hv] at hW
 obtain ⟨p,q,hA,hV,rfl,hfz,hnd⟩:=hW
 obtain ⟨rfl,rfl⟩:=trodVars_none hV
 have hsp:=hspec ds (by rw [trodAll_length hA];simp)
 have hlt' : ∀ x ∈ p,x.block<W.heap.size:=fun x hx=>hlt x (List.mem_append_left _ hx)
 refine ⟨ds,[],_,[],p,[],hW',?_,?_,?_,hb.frame _,fun h=>by cases h⟩
 ·rw [List.append_nil,hsp,hres]
  exact trodAll_mk1 (shut_bool hB true)
 ·rw [List.append_nil,hsp]
  exact z3V hl hb hps hA hlt'
 ·rw [List.append_nil,hsp,hv];rfl
theorem cell_bool {P:Program} {w:World} {r:Reach} {base:Nat} {u:TypeId} {v:Value} (hu:P.underlying u=some .bool) (h:Cell.okWide P w r base u v) : ∃ b,v = .bool b:=by
 cases v <;> simp [Cell.okWide,Cell.ok,hu] at h
 exact ⟨_,rfl⟩
theorem z9U {P:Program} {w:World} {r:Reach} {base:Nat} {t:TypeId} {v:Value} {ts:List TypeId} {n:Nat} (hu:(match P.underlying t with|some (.struct _)|some (.array _ _)=>true|_=>false)=true) (hts:P.cellTypes P.depth t=some ts) (hn:P.cellsOf t=n) (hl:ts.length=n)
  (h:Value.okWide P w r base t v) : ∃ cs,v = .agg cs∧cs.size=n ∧ ∀ (i:Nat) x u,cs[i]? = some x→ts[i]? = some u→Cell.okWide P w r base u x:=by
 unfold Value.okWide at h
 have h' : ∃ cs,v = .agg cs∧cs.size=P.cellsOf t∧Row.okWide P w r base t cs:=by
  revert h hu
  cases P.underlying t with
  | none=>intro hu;simp at hu
  | some d=>cases d <;> intro hu <;> first|(simp at hu;done)|exact fun h=>h
 obtain ⟨cs,rfl,hs,ts',hts',_,hc⟩:=h'
 rw [hts] at hts'
 obtain rfl:ts=ts':=Option.some.inj hts'
 refine ⟨cs,rfl,hs.trans hn,fun i x u hx hi=>?_⟩
 obtain ⟨u',hu',hok⟩:=hc i x hx
 have hlt:i<n:=by
  have:=(List.getElem?_eq_some_iff.1 hi).1
  omega
 rw [Nat.mod_eq_of_lt (by omega),hi] at hu'
 obtain rfl:u=u':=Option.some.inj hu'
 exact hok
variable {H:Type} {enc:TypeId × Value→H} {W:World} {base:Nat} {spare:Nat→Bool} {held:Bool}
def PRs (W:World) (ps:List PV) (cs:List Value):Prop:=cs.length=ps.length ∧ ∀ (j:Nat) p v,ps[j]? = some p→cs[j]? = some v→PR (fun _=>False) W p v
theorem PRs.nil:PRs W [] []:=⟨rfl,fun j p v h=>by simp at h⟩
theorem PRs.cons {p:PV} {v:Value} {ps:List PV} {cs:List Value} (h:PR (fun _=>False) W p v) (k:PRs W ps cs):PRs W (p :: ps) (v :: cs):=⟨by simp [k.1],fun j p' v' h1 h2=>by
 cases j with
 | zero=>simp at h1 h2;subst h1;subst h2;exact h
 | succ j=>exact k.2 j p' v' (by simpa using h1) (by simpa using h2)⟩
theorem z1L {n:Nat} {cs:List Value} {y:DataW H × List MemPlace} (h:DataW.trod enc Tryz.prog W base spare held n 3 cs=some y) : ∃ x:Int,cs = [.int .i64 x]:=by
 obtain ⟨x,hx,_,wx⟩:=DataW.trod_int (by kernel_rfl:Tryz.prog.underlying 3=some (.int .i64)) h
 exact ⟨x,hx⟩
theorem sl_pr {α:Type} {n:Nat} {g : α→List PV} {e t:TypeId} (hu:Tryz.prog.underlying t=some (.slice e)) (hc:Tryz.prog.cellsOf e=n) (hg : ∀ x,(g x).length=n) (hn : 0<n)
  (hel : ∀ m cs y,DataW.trod enc Tryz.prog W base spare held m e cs=some y → ∃ x,PRs W (g x) cs) {m:Nat} {cs:List Value} {y:DataW H × List MemPlace} (h:DataW.trod enc Tryz.prog W base spare held m t cs=some y) :
  ∃ (L:List α) (v:Value),cs = [v]∧PR (fun _=>False) W (.seq n (L.map g)) v:=by
 rcases DataW.trod_slice hu h with ⟨h0,_⟩|⟨a,len,cap,elems,rest,k,_,hcs,_,_,hlc,hmax,hlen,hel',_⟩
 ·exact ⟨[],_,h0,.nil n none 0 fun _=>rfl⟩
 ·have hall : ∀ i,i<len → ∃ (x : α) (c:List Value),PRs W (g x) c ∧ ∀ j,j<n→W.cell? ((a.add (i*n)).add j)=c[j]?:=fun i hi=>by
   have hE:=hel' i hi
   rw [List.getElem?_eq_getElem (by omega),Option.bind_eq_some_iff,hc] at hE
   obtain ⟨cs,hcs,hy⟩:=hE
   obtain ⟨_,hl,hat⟩:=World.cells?_some hcs
   obtain ⟨x,hx⟩:=hel _ _ _ hy
   exact ⟨x,cs,hx,fun j hj=>hat j hj⟩
  by_cases h0 : 0<len
  ·obtain ⟨e0,c0,hp0,hc0⟩:=hall 0 h0
   have hl0:c0.length=n:=by rw [hp0.1,hg]
   have hc00:=hc0 0 hn
   obtain ⟨b,off,spot⟩:=a
   rw [List.getElem?_eq_getElem (by omega)] at hc00
   have hspot:spot=none:=by
    have:=World.cell?_spot hc00
    simpa [Addr.add] using this
   subst hspot
   have hall2 : ∀ i,i<len → ∃ (x : α) (c:List Value),PRs W (g x) c ∧ ∀ j,j<n→W.cell? ⟨b,off+i*n+j,none⟩=c[j]?:=fun i hi=>by
    obtain ⟨x,c,h1,h2⟩:=hall i hi
    refine ⟨x,c,h1,fun j hj=>?_⟩
    have:=h2 j hj
    rw [Go.WideShapes.add_plain,Go.WideShapes.add_plain] at this
    exact this
   have hOld:Old b W:=by
    obtain ⟨x,c,h1,h2⟩:=hall2 0 h0
    have h3:=h2 0 hn
    have hl1:c.length=n:=by rw [h1.1,hg]
    rw [List.getElem?_eq_getElem (by omega)] at h3
    exact Old.of_cell h3
   let X:Fin len → α:=fun i=>(hall2 i.1 i.2).choose
   have hX : ∀ i:Fin len,∃ c:List Value,PRs W (g (X i)) c ∧ ∀ j,j<n→W.cell? ⟨b,off+i.1*n+j,none⟩=c[j]?:=fun i=>(hall2 i.1 i.2).choose_spec
   have hlen2:(((List.finRange len).map X).map g).length=len:=by simp
   refine ⟨(List.finRange len).map X,.slice (some ⟨b,off,none⟩) (((List.finRange len).map X).map g).length cap,by rw [hcs,hlen2],?_⟩
   have key : ∀ k r j x,(((List.finRange len).map X).map g)[k]? = some r→r[j]? = some x → ∃ v,W.cell? ⟨b,off+k*n+j,none⟩=some v∧PR (fun _=>False) W x v:=fun k r j x hk hx=>by
    simp only [List.getElem?_map,Option.map_eq_some_iff] at hk
    obtain ⟨y,⟨i,hi,rfl⟩,rfl⟩:=hk
    have hki:i.1=k:=by
     obtain ⟨h1,h2⟩:=List.getElem?_eq_some_iff.1 hi
     rw [← h2];simp
    obtain ⟨c,h1,h2⟩:=hX i
    have hjn:j<n:=by rw [← hg (X i)];exact (List.getElem?_eq_some_iff.1 hx).1
    have hcl:c.length=n:=by rw [h1.1,hg]
    have h3:=h2 j hjn
    rw [hki,List.getElem?_eq_getElem (by omega)] at h3
    exact ⟨_,h3,h1.2 j x _ hx (List.getElem?_eq_getElem (by omega))⟩
   refine .seq n b off cap _ (fun k j=>(W.cell? ⟨b,off+k*n+j,none⟩).getD undef) hOld id (by rw [hlen2];exact hlc) hmax (fun r hr=>?_) (fun k r j x hk hx=>?_) (fun k r j x hk hx=>?_)
   ·obtain ⟨y,_,rfl⟩:=List.mem_map.1 hr;exact hg y
   ·obtain ⟨v,h1,_⟩:=key k r j x hk hx
    rw [h1];rfl
   ·obtain ⟨v,h1,h2⟩:=key k r j x hk hx
    rw [h1];exact h2
  ·obtain rfl:len=0:=by omega
   exact ⟨[],_,hcs,.nil n (some a) cap fun e=>by cases e⟩
theorem split9 {α:Type} (cs:List α) (h:cs.length=9):cs=(cs.drop 0).take 1++(cs.drop 1).take 1++(cs.drop 2).take 1++(cs.drop 3).take 1++(cs.drop 4).take 1++(cs.drop 5).take 1++(cs.drop 6).take 1++(cs.drop 7).take 1++(cs.drop 8).take 1:=by
 match cs,h with
 | [a,b,c,d,e,f,g,h,i],_=>rfl
theorem ev_of {n:Nat} {cs:List Value} {y:DataW H × List MemPlace} (h:DataW.trod enc Tryz.prog W base spare held n 30 cs=some y) : ∃ x:Ev,PRs W (evC x) cs:=by
 obtain ⟨xs,m,_,_,hl,hx,hf⟩:=DataW.trod_struct (P:=Tryz.prog) (t := 30) rfl h
 have hx' : xs.length=9:=hx
 have f0:=hf 0 _ rfl
 have f1:=hf 1 _ rfl
 have f2:=hf 2 _ rfl
 have f3:=hf 3 _ rfl
 have f4:=hf 4 _ rfl
 have f5:=hf 5 _ rfl
 have f6:=hf 6 _ rfl
 have f7:=hf 7 _ rfl
 have f8:=hf 8 _ rfl
 rw [List.getElem?_eq_getElem (by omega)] at f0 f1 f2 f3 f4 f5 f6 f7 f8
 obtain ⟨x0,e0⟩:=z1L f0
 obtain ⟨x1,e1⟩:=z1L f1
 obtain ⟨x2,e2⟩:=z1L f2
 obtain ⟨x3,e3⟩:=z1L f3
 obtain ⟨x4,e4⟩:=z1L f4
 obtain ⟨x5,e5⟩:=z1L f5
 obtain ⟨x6,e6⟩:=z1L f6
 obtain ⟨x7,e7⟩:=z1L f7
 obtain ⟨x8,e8⟩:=z1L f8
 have hc:Tryz.prog.cellsOf 3=1:=by kernel_rfl
 have hcl:Tryz.prog.cellsOf 30=9:=by kernel_rfl
 rw [hcl] at hl
 have hs:=split9 cs hl
 refine ⟨⟨x0,x1,x2,x3,x4,x5,x6,x7,x8⟩,?_⟩
 rw [hs]
 change (cs.drop 0).take (Tryz.prog.cellsOf 3)=_ at e0
 rw [hc] at e0
 change (cs.drop 1).take (Tryz.prog.cellsOf 3)=_ at e1
 rw [hc] at e1
 change (cs.drop 2).take (Tryz.prog.cellsOf 3)=_ at e2
 rw [hc] at e2
 change (cs.drop 3).take (Tryz.prog.cellsOf 3)=_ at e3
 rw [hc] at e3
 change (cs.drop 4).take (Tryz.prog.cellsOf 3)=_ at e4
 rw [hc] at e4
 change (cs.drop 5).take (Tryz.prog.cellsOf 3)=_ at e5
 rw [hc] at e5
 change (cs.drop 6).take (Tryz.prog.cellsOf 3)=_ at e6
 rw [hc] at e6
 change (cs.drop 7).take (Tryz.prog.cellsOf 3)=_ at e7
 rw [hc] at e7
 change (cs.drop 8).take (Tryz.prog.cellsOf 3)=_ at e8
 rw [hc] at e8
 rw [e0,e1,e2,e3,e4,e5,e6,e7,e8]
 exact .cons (.val _ rfl) (.cons (.val _ rfl) (.cons (.val _ rfl) (.cons (.val _ rfl) (.cons (.val _ rfl) (.cons (.val _ rfl) (.cons (.val _ rfl) (.cons (.val _ rfl) (.cons (.val _ rfl) .nil))))))))
theorem z5B {P:Program} {w:World} {r:Reach} {base:Nat} {t e:TypeId} {v x:Value} (hu:P.underlying t=some (.slice e)) (hok:Value.okWide P w r base t v) (h:v.cells.toList = [x]):v=x:=by
 unfold Value.okWide at hok
 rw [hu] at hok
 cases v <;> simp [Value.cells] at h <;> first|exact h|(simp [Cell.okWide,Cell.ok,hu] at hok)
theorem z8c {r:Reach} {v:Value} {d:DataW H} {p:List MemPlace} (hval:Value.okWide Tryz.prog W r base 22 v)
  (h:DataW.Trod enc Tryz.prog W 0 (fun _=>true) true 22 v d p) : ∃ l:List Ev,PR (fun _=>False) W (.seq 9 (l.map evC)) v:=by
 obtain ⟨fuel,h⟩:=h
 obtain ⟨l,x,e,hp⟩:=sl_pr (e := 30) (n := 9) (g:=evC) (by kernel_rfl) (by kernel_rfl) (fun _=>rfl) (by omega) (fun m cs y h=>ev_of h) h
 rw [z5B (e := 30) (by kernel_rfl) hval e]
 exact ⟨l,hp⟩
theorem z8Z {r:Reach} {v:Value} (hval:Value.okWide Tryz.prog W r base 3 v) : ∃ x:Int,IntKind.i64.has x∧v = .int .i64 x:=by
 unfold Value.okWide at hval
 rw [show Tryz.prog.underlying 3=some (.int .i64) by kernel_rfl] at hval
 cases v <;> simp [Cell.okWide,Cell.ok,show Tryz.prog.underlying 3=some (.int .i64) by kernel_rfl] at hval
 rename_i k n
 obtain ⟨rfl,h⟩:=hval
 exact ⟨n,h,rfl⟩
theorem Tryz.own:ownKnob Tryz.prog.godebug=none:=by kernel_rfl
variable {H:Type} {enc:TypeId × Value→H} {W:World} {base:Nat}
theorem z8i {r:Reach} {v:Value} {d:DataW H} {p:List MemPlace} (hval:Value.okWide Tryz.prog W r base 25 v)
  (h:DataW.Trod enc Tryz.prog W 0 (fun _=>true) true 25 v d p) : ∃ (o:Bool) (ev:List Int),AR 0 (fun _=>False) z1Z W (rsnA o ev) v:=by
 obtain ⟨cs,rfl,hs,hc⟩:=z9U (n := 2) (ts := [4,23]) (by kernel_rfl) (by kernel_rfl) (by kernel_rfl) rfl hval
 obtain ⟨l⟩:=cs
 match l,hs with
 | [x0,x1],_ =>
  obtain ⟨o,rfl⟩:=cell_bool (by kernel_rfl) (hc 0 x0 4 rfl rfl)
  obtain ⟨fuel,h⟩:=h
  obtain ⟨xs,m,_,_,hl,hx,hf⟩:=DataW.trod_struct (P:=Tryz.prog) (t := 25) rfl h
  have hx' : xs.length=2:=hx
  have f1:=hf 1 _ rfl
  rw [List.getElem?_eq_getElem (by omega)] at f1
  have hci:Tryz.prog.cellsOf 23=1:=by kernel_rfl
  obtain ⟨ev,v,e,hp⟩:=sl_pr (e := 3) (n := 1) (g:=fun x:Int => [PV.val (.int .i64 x)]) (by kernel_rfl) (by kernel_rfl) (fun _=>rfl) (by omega) (fun m cs y h=>by
   obtain ⟨x,rfl⟩:=z1L h
   exact ⟨x,.cons (.val _ rfl) .nil⟩) f1
  change List.take (Tryz.prog.cellsOf 23) [x1] = [v] at e
  rw [hci] at e
  simp only [List.take_succ_cons,List.take_zero,List.cons.injEq,and_true] at e
  subst e
  refine ⟨o,ev,.agg _ _ rfl (fun j x hj=>?_) (fun j hj=>?_)⟩
  ·match j,hj with
   | 0,hj=>cases hj;exact .p _ _ (.val _ rfl)
   | 1,hj=>cases hj;exact .p _ _ hp
  ·match j,hj with
   | 0,_=>rfl
   | 1,_=>exact hp.one
theorem PR.off {D D' : Nat→Prop} {w:World} {n:Nat} {rows:List (List PV)} {v:Value} (h:PR D w (.seq n rows) v) (hn : 0<n) (hint : ∀ r ∈ rows,∀ x ∈ r,∃ z,x = .val (.int .i64 z))
  (hD : ∀ b,D' b → ∀ j z,w.cell? ⟨b,j,none⟩ ≠ some (.int .i64 z)):PR D' w (.seq n rows) v:=by
 cases h with
 | nil _ a cap h0=>exact .nil n a cap h0
 | seq _ b off cap _ f hb hnD hcap hmax hr hc hp =>
  cases rows with
  | nil=>exact .nil n _ cap (fun e=>by cases e)
  | cons r rest =>
   have hlen:=hr r (List.mem_cons_self)
   obtain ⟨x,hx⟩ : ∃ x,r[0]? = some x:=⟨_,List.getElem?_eq_getElem (by omega)⟩
   obtain ⟨z,rfl⟩:=hint r (List.mem_cons_self) x (List.mem_of_getElem? hx)
   have h1:=hc 0 r 0 _ rfl hx
   rw [(AR.p (N := 0) (loc:=z1Z) _ _ (hp 0 r 0 _ rfl hx)).val] at h1
   refine .seq n b off cap _ f hb (fun hd=>hD b hd _ z h1) hcap hmax hr hc fun k r' j y hk hy=>?_
   obtain ⟨z',rfl⟩:=hint r' (List.mem_of_getElem? hk) y (List.mem_of_getElem? hy)
   rw [(AR.p (N := 0) (loc:=z1Z) _ _ (hp k r' j _ hk hy)).val]
   exact .val _ rfl
theorem z7E {H:Type} {enc:TypeId × Value→H} {C:Checked} {os:Os} {f:FuncId} {fn:Func} {s:ChangeSpec} {conds:List PathCond} {apart fresh handsOn again:Bool} {X:World→Array Value→Prop}
  (hX : ∀ (w w' : World) (args:Array Value),w.heap=w'.heap→X w args→X w' args)
  (own:ownKnob C.prog.godebug=none) (started:os.Started) (noInit:C.prog.inits.idxOf? f=none) (hfn:C.prog.funcs[f]? = some fn)
  (witness : ∃ (w:World) (tape:Tape) (i:Input),w.os=os∧(w.forCall tape i).Shaped C.prog∧i.vars = []∧Input.okWide C.prog (w.forCall tape i) .any w.heap.size f i ∧
   ((s.pre enc C.prog fn conds apart (w.forCall tape i).memory i.args∧X (w.forCall tape i).memory i.args)∧sizedMet enc C.prog fn (OpenSpec.ofChange s) apart (w.forCall tape i).memory i.args)∧({} : Assume).holds C.prog (lone (Frame.enter C.prog f i.args .normal) [] (w.forCall tape i)))
  (contract : ∀ (W:World) (base:Nat) (args:Array Value) (ds gs:List (DataW H)) (before:List MemPlace),
   (∀ (j:Nat) t v,fn.params[j]? = some t→args[j]? = some v→Value.okWide C.prog W .any base t v) →
   DataW.Whole enc C.prog fn.params.toList s.vars apart W args.toList ds gs before→X W args→W.ShapedOpen C.prog →
   Calls C.prog f args W fun e W' => ∃ v,e = .returned v∧s.post enc C.prog fn apart fresh handsOn again W args v W') :
  ReturnsInHanded {} C os f .any (fun w args=>(s.pre enc C.prog fn conds apart w args∧X w args)∧sizedMet enc C.prog fn (OpenSpec.ofChange s) apart w args) (s.post enc C.prog fn apart fresh handsOn again):=by
 refine returnsInHanded_of_calls own started noInit witness ?_
 intro w tape i _ hsh _ hok hpre hholds
 obtain ⟨_,_,_,fn',hfn',_,_,_,_,hval⟩:=hok
 have e:fn' = fn:=Option.some.inj (hfn'.symm.trans hfn)
 subst e
 obtain ⟨⟨⟨ds,gs,before,hw,hc⟩,hx⟩,hz⟩:=hpre
 have hw':=DataW.Whole.of_heap (w':=w.forCall tape i) (by rfl) hw
 refine (contract (w.forCall tape i) w.heap.size i.args ds gs before hval hw' (hX _ _ _ (by rfl) hx) hsh).mono fun e W' ⟨v,he,hp⟩=>?_
 subst he
 exact ChangeSpec.post_blind hp
theorem z6T {P:Program} {w:World} {enc:TypeId × Value→Unit} {sp:Nat→Bool} {held:Bool} {fuel:Nat} {t e:TypeId} {n:Nat} {cs:List Value} {ss:List (List UInt8)} {p:List MemPlace}
  (ht:P.underlying t=some (.array n e)) (he:P.underlying e=some .string) (hce:P.cellsOf e=1) (hct:P.cellsOf t=n)
  (h:DataW.trod enc P w 0 sp held fuel t cs=some (.agg (ss.map fun s => .lit (.string s)),p)):cs=ss.map fun s=>Value.string ⟨s.toArray⟩:=by
 obtain ⟨xs,m,_,ex,hl,hxl,hel⟩:=DataW.trod_array ht h
 have hxs:xs.map (·.1)=ss.map fun s=>(DataW.lit (.string s):DataW Unit):=(DataW.agg.inj (Prod.mk.inj ex).1).symm
 have hsl:ss.length=n:=by
  have:=congrArg List.length hxs
  simp at this
  omega
 rw [hct] at hl
 apply List.ext_getElem?
 intro i
 by_cases hi:i<n
 ·have hE:=hel i hi
  rw [hce,Nat.mul_one,List.getElem?_eq_getElem (by omega)] at hE
  obtain ⟨s,e1,e2,_⟩:=DataW.trod_string he hE
  have h0:cs[i]? = some (.string s):=by
   have:((cs.drop i).take 1)[0]? = some (.string s):=by rw [e1];rfl
   simpa using this
  have e4:(xs.map (·.1))[i]? = (ss.map fun s=>(DataW.lit (.string s):DataW Unit))[i]?:=by rw [hxs]
  rw [List.getElem?_map,List.getElem?_map,List.getElem?_eq_getElem (by omega:i<xs.length),List.getElem?_eq_getElem (by omega:i<ss.length),e2] at e4
  simp only [Option.map_some,Option.some.injEq,DataW.lit.injEq,Lit.string.injEq] at e4
  rw [h0,List.getElem?_map,List.getElem?_eq_getElem (by omega:i<ss.length),← e4]
  rfl
 ·rw [List.getElem?_eq_none (by omega),List.getElem?_eq_none (by simp;omega)]
theorem z9d {P:Program} {W:World} (hsh:W.ShapedOpen P) {g:Nat} {t:TypeId} (hg:g<P.globals.size) (ht:(((begin P (fun _ _ => 0) default).world.heap[g]?).bind Obj.row?).map (·.2)=some t) : ∃ cs,W.heap[g]? = some (.cells cs t (0,0)):=by
 obtain ⟨⟨zero,t'⟩,h1,rfl⟩:=Option.map_eq_some_iff.1 ht
 obtain ⟨cs,h2,_⟩:=hsh.1 g zero t' hg h1
 exact ⟨cs,h2⟩
theorem z8M {P:Program} {W:World} {name:String} {g:Nat} {t:TypeId} {cs:Array Value} (hg:P.globalNamed name=some g) (hv:W.var? P name=some cs) (hb : ∃ c,W.heap[g]? = some (.cells c t (0,0))):W.heap[g]? = some (.cells cs t (0,0)):=by
 obtain ⟨c,hc⟩:=hb
 unfold World.var? at hv
 rw [hg] at hv
 simp only [Option.bind_some,hc,Option.some.injEq] at hv
 rw [hc,hv]
def namesL:List (List UInt8) := [[],[114,101,97,100],[119,114,105,116,101],[97,116,111,109,105,99,45,114,101,97,100],[97,116,111,109,105,99,45,119,114,105,116,101],[97,116,111,109,105,99,45,98,111,116,104],[108,111,99,107],[117,110,108,111,99,107],[114,108,111,99,107],[114,117,110,108,111,99,107],[100,111,110,101],[119,97,105,116],[111,110,99,101,45,101,110,100],[111,110,99,101,45,115,101,101,110],[103,111],[115,101,110,100,45,115,116,97,114,116],[115,101,110,100,45,101,110,100],[114,101,99,118,45,115,116,97,114,116],[114,101,99,118,45,101,110,100],[99,108,111,115,101],[114,101,99,118,45,99,108,111,115,101,100]]
theorem z8q {W : World} (hL : laidMetH Tryz.prog Rows.explainTextRow.laid W) (hsh : W.ShapedOpen Tryz.prog) : W.heap[0]? = some (.cells z2z.toArray 57 (0, 0)) ∧ W.heap[1]? = some (.cells z6R.toArray 101 (0, 0)) := by
  rw [MakeChecks.laidMetH_plain _ _ _ (by kernel_rfl)] at hL
  obtain ⟨ps, ⟨_, _, _, _, _, _, _, _, _, _, ⟨_, _, _, _, _, _, _, _, _, _, ⟨g1, t1, cs1, fu1, p1, q1, a1, a2, a3, a4, ⟨g2, t2, cs2, fu2, p2, q2, b1, b2, b3, b4, _, _⟩, _⟩, _⟩, _⟩, _⟩ := hL
  obtain rfl := Option.some.inj ((show Tryz.prog.globalNamed "internal/strconv.uint64pow10" = some 1 by kernel_rfl).symm.trans a1)
  obtain rfl := Option.some.inj ((show (Tryz.prog.globals[1]?).map (·.type) = some 101 by kernel_rfl).symm.trans a2)
  obtain rfl := Option.some.inj ((show Tryz.prog.globalNamed "interleave/event.names" = some 0 by kernel_rfl).symm.trans b1)
  obtain rfl := Option.some.inj ((show (Tryz.prog.globals[0]?).map (·.type) = some 57 by kernel_rfl).symm.trans b2)
  have e1 : Rows.laid_internal_strconv_uint64pow10 = (Go.Lib.tabData .u64 Go.Lib.pow10Tab : DataW Unit) := by kernel_rfl
  have e2 : Rows.laid_interleave_event_names = (.agg (namesL.map fun s => .lit (.string s)) : DataW Unit) := by kernel_rfl
  rw [e1] at a4
  rw [e2] at b4
  have c1 := Go.Lib.cells_of_tab (n := 20) (e := 61) (by kernel_rfl) (by kernel_rfl) (by kernel_rfl) (by kernel_rfl) a4
  have c2 := z6T (n := 21) (e := 9) (by kernel_rfl) (by kernel_rfl) (by kernel_rfl) (by kernel_rfl) b4
  have h1 := z8M (t := 101) a1 a3 (z9d hsh (by decide +kernel) (by kernel_rfl))
  have h2 := z8M (t := 57) b1 b3 (z9d hsh (by decide +kernel) (by kernel_rfl))
  refine ⟨?_, ?_⟩
  · rw [h2, show cs2 = z2z.toArray from Array.toList_inj.1 (c2.trans rfl)]
  · rw [h1, show cs1 = z6R.toArray from Array.toList_inj.1 (c1.trans rfl)]
def locG:Nat→Option Value:=fun t=>if t=1000000 then some (.pointer (some ⟨0,0,none⟩)) else if t=1000001 then some (.pointer (some ⟨1,0,none⟩)) else none
theorem z9b {N:Nat} {D:Nat→Prop} {loc:Nat→Option Value} {W:World} {g:Nat} {ty:TypeId} {us:List Value} (h:W.heap[g]? = some (.cells us.toArray ty (0,0))) (h1 : ∀ v ∈ us,v.oneCell' = true):OR N D loc W (.pointer (some ⟨g,0,none⟩)) (.boxP (some g) ty (z0y us)) :=
 ⟨g,_,rfl,h,by simp [z0y],fun j x hx=>by
  simp only [z0y,List.getElem?_map,Option.map_eq_some_iff] at hx
  obtain ⟨v,hv,rfl⟩:=hx
  have:us.toArray.getD j undef=v:=by rw [Array.getD_eq_getD_getElem?,List.getElem?_toArray,hv];rfl
  rw [this]
  exact .zV _ (h1 v (List.mem_of_getElem? hv)),fun j hj=>by
  have hj' : j<us.length:=by simpa using hj
  rw [Array.getD_eq_getD_getElem?,List.getElem?_toArray,List.getElem?_eq_getElem hj']
  exact h1 _ (List.getElem_mem hj'),fun p e=>by cases e;rfl⟩
theorem hrelG {W:World} (h0:W.heap[0]? = some (.cells z2z.toArray 57 (0,0))) (h1:W.heap[1]? = some (.cells z6R.toArray 101 (0,0))):HRel (fun _=>False) 1000002 hpG locG W:=by
 have one0 : ∀ v ∈ z2z,v.oneCell' = true:=fun v hv=>by
  simp only [z2z,List.mem_map] at hv
  obtain ⟨_,_,rfl⟩:=hv
  rfl
 have one1 : ∀ v ∈ z6R,v.oneCell' = true:=fun v hv=>by
  simp only [z6R,List.mem_map] at hv
  obtain ⟨_,_,rfl⟩:=hv
  rfl
 have hl : ∀ t u,locG t=some u→(t=1000000∧u = .pointer (some ⟨0,0,none⟩))∨(t=1000001∧u = .pointer (some ⟨1,0,none⟩)):=fun t u h=>by
  unfold locG at h
  split at h
  ·cases h;exact .inl ⟨by assumption,rfl⟩
  ·split at h
   ·cases h;exact .inr ⟨by assumption,rfl⟩
   ·cases h
 refine ⟨fun t o h=>?_,fun t h=>?_,fun t t' u u' b e1 e2 e3 e4=>?_,fun b h=>h.elim,fun t u b _ _ h=>h⟩
 ·unfold hpG at h
  rw [zy,zy,qP] at h
  split at h
  ·rename_i e;subst e;cases h;exact ⟨by omega,_,rfl,z9b h0 one0⟩
  ·split at h
   ·rename_i e;subst e;cases h;exact ⟨by omega,_,rfl,z9b h1 one1⟩
   ·cases h
 ·unfold hpG at h
  rw [zy,zy,qP] at h
  unfold locG
  split at h
  ·cases h
  ·rename_i k1
   split at h
   ·cases h
   ·rename_i k2
    rw [if_neg k1,if_neg k2]
 ·rcases hl t u e1 with ⟨rfl,rfl⟩|⟨rfl,rfl⟩ <;> rcases hl t' u' e2 with ⟨rfl,rfl⟩|⟨rfl,rfl⟩
  ·rfl
  ·cases e3;cases e4
  ·cases e3;cases e4
  ·rfl
theorem dmG {W:World} (h0:W.heap[0]? = some (.cells z2z.toArray 57 (0,0))) (h1:W.heap[1]? = some (.cells z6R.toArray 101 (0,0))) (b:Nat) (hb:Dm (fun _=>False) locG b) (j:Nat) (z:Int):W.cell? ⟨b,j,none⟩ ≠ some (.int .i64 z):=by
 have key : ∀ (us:List Value) (g:Nat) (ty:TypeId),W.heap[g]? = some (.cells us.toArray ty (0,0))→(∀ v ∈ us,v ≠ .int .i64 z)→W.cell? ⟨g,j,none⟩ ≠ some (.int .i64 z):=fun us g ty hg hn hc=>by
  simp only [World.cell?,hg] at hc
  have:us[j]? = some (.int .i64 z):=by simpa using hc
  exact hn _ (List.mem_of_getElem? this) rfl
 rcases hb with hb|⟨t,u,e1,e2⟩
 ·exact hb.elim
 ·unfold locG at e1
  split at e1
  ·cases e1
   cases e2
   exact key _ _ _ h0 (fun v hv=>by
    simp only [z2z,List.mem_map] at hv
    obtain ⟨_,_,rfl⟩:=hv
    intro e;cases e)
  ·split at e1
   ·cases e1
    cases e2
    exact key _ _ _ h1 (fun v hv=>by
     simp only [z6R,List.mem_map] at hv
     obtain ⟨_,_,rfl⟩:=hv
     intro e;cases e)
   ·cases e1
end Go.Proofs.YtdlgoofjechocaaGreatDoor
