/- Walks: a copy of a client, whether a client may be, a client put behind the others. -/
import Derived.Test.YtcofdlipapnohaaGreatDoorZSrvW
import Derived.Test.YtcofdlipapnohaaGreatDoorZHisC
import Derived.Test.YtcofdlipapnohaaGreatDoorZEdRow
import Derived.Test.YtcofdlipapnohaaGreatDoorZDoNw
import Derived.Test.YtcofdlipapnohaaGreatDoorZSrvN
set_option linter.unusedVariables false
set_option linter.unusedSimpArgs false
namespace Go.Proofs.YtcofdlipapnohaaGreatDoor
open Go Go.RowKit Sy
section
variable {α:Type} {enc:α→List Value} {K:Nat} {T:TypeId}
theorem wpList_append_fr {S:TypeId} {z:Value} {bytes:Nat} (ht:Tryz.prog.underlying S=some (.slice T)) (hi:(Tryz.prog.info? T).map (fun i=>(i.zero,i.size,i.bytes))=some (some z,K,bytes)) (hzs:z.cells.size=K) (hK0:0 < K) (hb:bytes≤1000)
  (hlen:∀x,(enc x).length=K) (h1:∀x,∀u∈enc x,u.oneCell'=true)
  {ops:Array Oper} {rest:List Oper} {o:Oper} {a:Act} {Q:Exit→Act→World→Prop} {w:World} (hgd:o.guard=none) (s x:Operand)
  (ho:o.op=.call { callee:=.builtin .append,args:=#[s,x],argTypes:=#[S,S] }) (w0:World) (v:Value) (l m:List α) (hs:a.eval s=v) (hown:OwnX enc K T w0 w v l) (A:Option Addr) (n c:Nat) (hx:a.eval x=.slice A n c) (hm:m.length=n)
  (hrd:ReadX enc K w A m) (hl:l.length+n≤2000000)
  (h:∀v' w',OwnX enc K T w0 w' v' (l++m)→w.grownBy w' v.ownBlock→Fresh w v v'→wpList Tryz.prog ops Q rest (a.put o.dst v') w'):wpList Tryz.prog ops Q (o :: rest) a w:=by
 refine wpList_plain hgd fun _ hK=>?_
 obtain⟨i0,hi0,hz0,hz1,hz2⟩:=info_parts hi
 obtain⟨v',w',hr,h2,h3⟩:=run_append_xs (P:=Tryz.prog) (ty:=o.type) (c:=c) ht hi0 hz0 hz1 hz2 hzs hK0 hlen h1 hown hm hrd hl hb
 have hf:=append_fresh (P:=Tryz.prog) (ty:=o.type) (c:=c) ht hi0 hz0 hz1 hz2 hzs hK0 hlen h1 hown hm hrd hl hb hr
 unfold Oper.wp execOp
 simp only[ho,resolve,invoke,builtin,Sem.run_bind,Sem.run_pure,Result.andThen_ok,List.map_toArray,List.map_cons,List.map_nil,hs,hx]
 rw[hr]
 exact hK _ _ (h v' w' h2 h3 hf)
end
theorem cloneNilRule_c (w:World):Calls Tryz.prog 82 #[.slice none 0 0] w fun e w'=>e=.returned (.slice none 0 0)∧w=w':=by
 have q25:∀(w:World) (a:Option Addr) (n c n' c':Nat),(binOp .eql 42 (.slice a n c) (.slice none n' c')).run Tryz.prog w=.ok (.bool a.isNone) w:=fun w a n c n' c'=>Lib.run_eql_slice_nil w _ _ a n c n' c' Tryz.underlying42
 go_enter Tryz.func82,Tryz.ntmps82
 go_wp2
 go_ret
 exact⟨rfl,rfl⟩
abbrev clV (nm sn:Str):Value:=.agg #[.string (bs nm),.string (bs sn),.slice none 0 0]
set_option maxRecDepth 100000 in
set_option maxHeartbeats 4000000 in
theorem copyClient_c (nm sn:Str) (w:World):Calls Tryz.prog 45 #[clV nm sn] w fun e w'=>e=.returned (clV nm sn)∧Calm w w':=by
 obtain⟨w2,hw2⟩:∃w2,w2=(w.alloc (.cells #[.string (bs nm),.string (bs sn),.slice none 0 0] 94)).alloc (.cells #[.string ⟨#[]⟩,.string ⟨#[]⟩,.slice none 0 0] 94):=⟨_,rfl⟩
 have hc2:Calm w w2:=by rw[hw2];exact ((Calm.refl _).alloc _).alloc _
 obtain⟨P3,e3⟩:∃P3,w.heap.size=P3:=⟨_,rfl⟩
 obtain⟨P4,e4⟩:∃P4,P3+1=P4:=⟨_,rfl⟩
 have h3:CellsB w2 P3 [.string (bs nm),.string (bs sn),.slice none 0 0]:=by
  rw[hw2,←e3]
  exact (CellsB.new w _ _).calm ((Calm.refl _).alloc _)
 have h4:CellsB w2 P4 [.string ⟨#[]⟩,.string ⟨#[]⟩,.slice none 0 0]:=by
  rw[hw2,←e4,←e3]
  have:=CellsB.new (w.alloc (.cells #[.string (bs nm),.string (bs sn),.slice none 0 0] 94)) #[.string ⟨#[]⟩,.string ⟨#[]⟩,.slice none 0 0] 94
  rwa [World.size_alloc] at this
 have HW:=Lib.hid hw2
 have HE:=Lib.hid (And.intro e3 e4)
 have H4:=Lib.hid h4
 have q0:=h3.at_ 0 _ rfl
 have q1:=h3.at_ 1 _ rfl
 have q2:=h3.at_ 2 _ rfl
 have g2:=h3.fz 2
 have lq:=h3.lt
 have h33:=(h3.setc 2 (.slice none 0 0) (by simp))
 have h43:=h4.other (b:=P3) (by omega) [.string (bs nm),.string (bs sn),.slice none 0 0]
 have HC2:Hid (Calm w (w2.setCell ⟨P3,2,none⟩ (.slice none 0 0))∧CellsB (w2.setCell ⟨P3,2,none⟩ (.slice none 0 0)) P3 [.string (bs nm),.string (bs sn),.slice none 0 0]∧CellsB (w2.setCell ⟨P3,2,none⟩ (.slice none 0 0)) P4 [.string ⟨#[]⟩,.string ⟨#[]⟩,.slice none 0 0]):=
  ⟨calm_set hc2 (by omega) _ _,h33,h4.kp (F:=fun i=>i=P3) ((Kp.refl (fun i=>i=P3) _).set1 (b:=P3) (.inl rfl) 2 _) (by omega)⟩
 clear hw2 hc2 h3 h4 e3 e4 h33 h43
 go_enter Tryz.func45,Tryz.ntmps45
 go_upto_region 1 with (fail)
 rw[←HW.out]
 simp only[HE.out.1,HE.out.2]
 go_wp2_with fail
 refine (cloneNilRule_c _).mono ?_
 rintro e w5 ⟨rfl,rfl⟩
 go_upto_region 2 with (fail)
 obtain⟨w6,hw6⟩:∃w6,w6=w2.setCell ⟨P3,2,none⟩ (.slice none 0 0):=⟨_,rfl⟩
 rw[←hw6] at HC2 ⊢
 clear hw6 q0 q1 q2 g2 lq
 have q0:=HC2.out.2.1.at_ 0 _ rfl
 have q1:=HC2.out.2.1.at_ 1 _ rfl
 have q2:=HC2.out.2.1.at_ 2 _ rfl
 have lq:=HC2.out.2.1.lt
 go_wp2_with fail
 go_loopw [12] (fun i wr=>i=.int .i64 0∧wr=w6) (fun _ _=>0)
 case atStart=>exact⟨rfl,rfl⟩
 case round=>
  obtain⟨rfl,rfl⟩:=hrel
  obtain⟨w6,rfl⟩:∃w6,w6=wr:=⟨_,rfl⟩
  have z0:=HC2.out.2.2.at_ 0 _ rfl
  have z1:=HC2.out.2.2.at_ 1 _ rfl
  have z2:=HC2.out.2.2.at_ 2 _ rfl
  have f0:=HC2.out.2.2.fz 0
  have f1:=HC2.out.2.2.fz 1
  have f2:=HC2.out.2.2.fz 2
  have lz:=HC2.out.2.2.lt
  go_wp2_with fail
  refine bodyPost_ret (v:=clV nm sn) ?_ rfl ⟨rfl,calm_set3 HC2.out.1 (by have:=HE.out;omega) _ _ _⟩
  rw[results_cell1 rfl]
  go_simp
theorem shortRules0_c (w:World):Calls Tryz.prog 95 #[.slice none 0 0] w fun e w'=>e=.returned (.bool true)∧w=w':=by
 go_enter Tryz.func95,Tryz.ntmps95
 go_wp2_with fail
 go_loopw [7] (fun i wr=>i=.int .i64 0∧wr=w) (fun _ _=>0)
 case atStart=>exact⟨rfl,rfl⟩
 case round=>
  obtain⟨rfl,rfl⟩:=hrel
  go_wp2_with fail
  go_ret
  exact⟨rfl,rfl⟩
set_option maxHeartbeats 4000000 in
theorem viewable_c (nm:Str) (SA:Option Addr) (sc:Nat) (w:World) (hs:StrmsU w SA mainS) (hn:nameS nm=true) (hl:nm.length≤24) :
  Calls Tryz.prog 64 #[.slice SA 1 sc,.agg #[.string (bs nm),.string ⟨#[109,97,105,110]⟩,.slice none 0 0]] w fun e w'=>e=.returned (.int .i64 0)∧Calm w w':=by
 obtain⟨w1,hw1⟩:∃w1,w1=w.alloc (.cells #[.string (bs nm),.string ⟨#[109,97,105,110]⟩,.slice none 0 0] 94):=⟨_,rfl⟩
 have hc1:Calm w w1:=by rw[hw1];exact (Calm.refl _).alloc _
 obtain⟨P3,e3⟩:∃P3,w.heap.size=P3:=⟨_,rfl⟩
 have h3:CellsB w1 P3 [.string (bs nm),.string ⟨#[109,97,105,110]⟩,.slice none 0 0]:=by
  rw[hw1,←e3]
  exact CellsB.new w _ _
 have K:=Lib.hid (vwof_c nm SA sc w1 (hs.calm hc1))
 have KN:Hid (Calls Tryz.prog 93 #[.string (bs nm)] w1 fun e w'=>e=.returned (.bool true)∧w1=w'):=by
  have:=sname_c nm w1 (by omega)
  rw[hn] at this
  exact this
 have HW:=Lib.hid hw1
 have HE:=Lib.hid e3
 have H3:=Lib.hid h3
 have HC1:=Lib.hid hc1
 have q0:=h3.at_ 0 _ rfl
 have q1:=h3.at_ 1 _ rfl
 have q2:=h3.at_ 2 _ rfl
 have lq:=h3.lt
 clear hs hn hl hw1 hc1 e3 h3
 go_enter Tryz.func64,Tryz.ntmps64
 go_upto_region 1 with (fail)
 rw[←HW.out]
 simp only[HE.out]
 go_wp2_with fail
 refine KN.out.mono ?_
 rintro e w' ⟨rfl,rfl⟩
 go_wp2_with fail
 refine K.out.mono ?_
 rintro e w5 ⟨⟨A,c,rfl,_,_,_⟩,hc5⟩
 have h5:=H3.out.calm hc5
 have HC5:Hid (Calm w w5):=HC1.out.trans hc5
 clear q0 q1 q2 lq hc5
 have q2:=h5.at_ 2 _ rfl
 have lq:=h5.lt
 clear h5
 go_wp2_with fail
 refine (shortRules0_c _).mono ?_
 rintro e w' ⟨rfl,rfl⟩
 go_wp2_with fail
 go_ret
 exact⟨rfl,HC5.out⟩
theorem infoK_Client:(Tryz.prog.info? 94).map (fun i=>(i.zero,i.size,i.bytes))=some (some (.agg #[.string ⟨#[]⟩,.string ⟨#[]⟩,.slice none 0 0]),3,56):=by kernel_rfl
end Go.Proofs.YtcofdlipapnohaaGreatDoor
