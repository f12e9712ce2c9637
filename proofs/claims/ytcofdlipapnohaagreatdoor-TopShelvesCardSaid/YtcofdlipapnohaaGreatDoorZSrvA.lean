/- Walks: a lease that is held, the lease that is acquired. -/
import Derived.BigRegion
import Derived.Maps.Views
import Derived.Test.YtcofdlipapnohaaGreatDoorZSrvB
import Derived.Test.YtcofdlipapnohaaGreatDoorZHisC
import Derived.Test.YtcofdlipapnohaaGreatDoorZSrvN
set_option linter.unusedVariables false
set_option linter.unusedSimpArgs false
namespace Go.Proofs.YtcofdlipapnohaaGreatDoor
open Go Go.RowKit Sy
structure Lse where
 path:Str
 holder:Str
 fence:Int
 frm:Int
 til:Int
def encLs (x:Lse):List Value:=[.string (bs x.path),.string (bs x.holder),.int .i64 x.fence,.int .i64 x.frm,.int .i64 x.til]
def lseV (x:Lse):Value:=.agg (encLs x).toArray
def Lse.row (x:Lse):RowK 5:=⟨encLs x,rfl,by simp[encLs,Value.oneCell']⟩
def noL:Lse:=⟨[],[],0,0,0⟩
def LkAt (w:World) (M:Nat) (p:Str) (x:Lse) (b:Bool):Prop:=(Instr.lookup 116 (.map (some M)) (.string (bs p)) true).run Tryz.prog w=.ok (.tuple #[.agg #[.string (bs x.path),.string (bs x.holder),.int .i64 x.fence,.int .i64 x.frm,.int .i64 x.til],.bool b]) w
theorem zero_lse (w:World):(zeroValue 115).run Tryz.prog w=.ok (lseV noL) w:=by kernel_rfl
theorem lk_no {w:World} {M k:Nat} (h:MapH w M k (.map [])) (p:Str) (hp:p.length≤1048576):LkAt w M p noL false:=by
 obtain⟨v,ps,hrun,hv⟩:=World.ownsMap.look_ok h keyS_law Tryz.underlying116 (zero_lse w) (show heldR (lseV noL)=some (.held (lseV noL),[]) from rfl) (keyS_of p hp)
 have:v=lseV noL:=by
  simp[heldR,DataW.atKey] at hv
  exact hv.1
 unfold LkAt
 rw[hrun,this]
 rfl
set_option maxHeartbeats 4000000 in
theorem holding_no (T M:Nat) (p:Str) (w:World) (hz:CellsB w T [.int .i64 0,.map (some M)]) (hlk:∀W,Calm w W→LkAt W M p noL false) :
  Calls Tryz.prog 111 #[.pointer (some ⟨T,0,none⟩),.string (bs p)] w fun e w'=>e=.returned (.tuple #[.agg #[.string ⟨#[]⟩,.string ⟨#[]⟩,.int .i64 0,.int .i64 0,.int .i64 0],.bool false])∧Calm w w':=by
 have HT:=Lib.hid (fun W (hW:Calm w W)=>hz.calm hW)
 have hl:=hlk _ ((Calm.refl w).alloc (.cells #[.string ⟨#[]⟩,.string ⟨#[]⟩,.int .i64 0,.int .i64 0,.int .i64 0] 115))
 unfold LkAt noL at hl
 simp only[show bs ([]:Str)=(⟨#[]⟩:ByteArray) from rfl] at hl
 have c0:=((HT.out _ ((Calm.refl w).alloc (.cells #[.string ⟨#[]⟩,.string ⟨#[]⟩,.int .i64 0,.int .i64 0,.int .i64 0] 115))).at_ 0 _ rfl)
 have c1:=((HT.out _ ((Calm.refl w).alloc (.cells #[.string ⟨#[]⟩,.string ⟨#[]⟩,.int .i64 0,.int .i64 0,.int .i64 0] 115))).at_ 1 _ rfl)
 have lT:=hz.lt
 clear hlk hz
 go_enter Tryz.func111,Tryz.ntmps111
 go_wp2_with fail
 go_region
 all_goals
  go_wp2_with fail
  refine bodyPost_ret (v:=.tuple #[.agg #[.string ⟨#[]⟩,.string ⟨#[]⟩,.int .i64 0,.int .i64 0,.int .i64 0],.bool false]) ?_ rfl ⟨rfl,?_⟩
  ·rw[results_cell_slot rfl]
   go_simp
  ·first
    |exact ((Calm.refl w).alloc _).alloc _
    |exact Below.drew (((Calm.refl w).alloc _).alloc _)
set_option maxHeartbeats 4000000 in
theorem held_no (T M:Nat) (p hd:Str) (f:Int) (w:World) (hz:CellsB w T [.int .i64 0,.map (some M)]) (hlk:∀W,Calm w W→LkAt W M p noL false) :
  Calls Tryz.prog 116 #[.pointer (some ⟨T,0,none⟩),.string (bs p),.string (bs hd),.int .i64 f] w fun e w'=>e=.returned (.tuple #[.agg #[.string ⟨#[]⟩,.string ⟨#[]⟩,.int .i64 0,.int .i64 0,.int .i64 0],.bool false])∧Calm w w':=by
 have HT:=Lib.hid (fun W (hW:Calm w W)=>hz.calm hW)
 have HL:=Lib.hid hlk
 clear hlk hz
 go_enter Tryz.func116,Tryz.ntmps116
 go_wp2_with fail
 refine (holding_no T M p _ (HT.out _ ((Calm.refl _).alloc _)) (fun W hW=>HL.out W (((Calm.refl _).alloc _).trans hW))).mono ?_
 rintro e w2 ⟨rfl,hc2⟩
 have HC2:=Lib.hid (((Calm.refl w).alloc _).trans hc2)
 obtain⟨hc,hf⟩:(∀b o,b < w.heap.size+1→w2.cell? ⟨b,o,none⟩=(w.alloc (.cells #[.string ⟨#[]⟩,.string ⟨#[]⟩,.int .i64 0,.int .i64 0,.int .i64 0] 115)).cell? ⟨b,o,none⟩)∧(∀b o,b < w.heap.size+1→w2.frozen? ⟨b,o,none⟩=(w.alloc (.cells #[.string ⟨#[]⟩,.string ⟨#[]⟩,.int .i64 0,.int .i64 0,.int .i64 0] 115)).frozen? ⟨b,o,none⟩):=
  ⟨fun b o h=>hc2.cell (p:=⟨b,o,none⟩) (by simpa using h),fun b o h=>hc2.frozen (p:=⟨b,o,none⟩) (by simpa using h)⟩
 have hz2:w.heap.size < w2.heap.size:=by have:=hc2.size;simp at this;omega
 clear hc2
 go_wp2_with fail
 go_region
 all_goals
  go_wp2_with fail
  refine bodyPost_ret (v:=.tuple #[.agg #[.string ⟨#[]⟩,.string ⟨#[]⟩,.int .i64 0,.int .i64 0,.int .i64 0],.bool false]) ?_ rfl ⟨rfl,?_⟩
  ·rw[results_cell_slot rfl]
   go_simp
  ·first
    |exact Below.drew (Calm.alloc (calm_set5 HC2.out (Nat.le_refl _) _ _ _ _ _) _)
    |exact Calm.alloc (calm_set5 HC2.out (Nat.le_refl _) _ _ _ _ _) _
def xPath:Str:=[47,47,109,97,105,110,47,120]
def xLse:Lse:=⟨xPath,annN,1,0,10⟩
theorem holds_no (T M:Nat) (p hd:Str) (f:Int) (w:World) (hz:CellsB w T [.int .i64 0,.map (some M)]) (hlk:∀W,Calm w W→LkAt W M p noL false) :
  Calls Tryz.prog 110 #[.pointer (some ⟨T,0,none⟩),.string (bs p),.string (bs hd),.int .i64 f] w fun e w'=>e=.returned (.bool false)∧Calm w w':=by
 have K:=Lib.hid (held_no T M p hd f w hz hlk)
 clear hz hlk
 go_enter Tryz.func110,Tryz.ntmps110
 go_wp2_with fail
 refine K.out.mono ?_
 rintro e w2 ⟨rfl,hc2⟩
 have HC2:=Lib.hid hc2
 clear hc2
 go_wp2_with fail
 go_ret
 exact⟨rfl,HC2.out.alloc _⟩
set_option maxHeartbeats 4000000 in
theorem holding_yes (T M:Nat) (w:World) (hz:CellsB w T [.int .i64 0,.map (some M)]) (hlk:∀W,Calm w W→LkAt W M xPath xLse true) :
  Calls Tryz.prog 111 #[.pointer (some ⟨T,0,none⟩),.string ⟨#[47,47,109,97,105,110,47,120]⟩] w fun e w'=>e=.returned (.tuple #[.agg #[.string ⟨#[47,47,109,97,105,110,47,120]⟩,.string ⟨#[97,110,110]⟩,.int .i64 1,.int .i64 0,.int .i64 10],.bool true])∧Calm w w':=by
 have hl:=hlk _ ((Calm.refl w).alloc (.cells #[.string ⟨#[]⟩,.string ⟨#[]⟩,.int .i64 0,.int .i64 0,.int .i64 0] 115))
 have hl:(Instr.lookup 116 (.map (some M)) (.string ⟨#[47,47,109,97,105,110,47,120]⟩) true).run Tryz.prog (w.alloc (.cells #[.string ⟨#[]⟩,.string ⟨#[]⟩,.int .i64 0,.int .i64 0,.int .i64 0] 115))=.ok (.tuple #[.agg #[.string ⟨#[47,47,109,97,105,110,47,120]⟩,.string ⟨#[97,110,110]⟩,.int .i64 1,.int .i64 0,.int .i64 10],.bool true]) (w.alloc (.cells #[.string ⟨#[]⟩,.string ⟨#[]⟩,.int .i64 0,.int .i64 0,.int .i64 0] 115)):=hl
 have hz1:=hz.calm (((Calm.refl w).alloc (.cells #[.string ⟨#[]⟩,.string ⟨#[]⟩,.int .i64 0,.int .i64 0,.int .i64 0] 115)))
 have c0:=hz1.at_ 0 _ rfl
 have c1:=hz1.at_ 1 _ rfl
 have lT:=hz.lt
 have c0w:=hz.at_ 0 _ rfl
 have c1w:=hz.at_ 1 _ rfl
 clear hlk hz hz1
 go_enter Tryz.func111,Tryz.ntmps111
 go_wp2_with fail
 go_region
 all_goals
  go_wp2_with fail
  refine bodyPost_ret (v:=.tuple #[.agg #[.string ⟨#[47,47,109,97,105,110,47,120]⟩,.string ⟨#[97,110,110]⟩,.int .i64 1,.int .i64 0,.int .i64 10],.bool true]) ?_ rfl ⟨rfl,?_⟩
  ·rw[results_cell_slot rfl]
   go_simp
  ·first
    |exact ((Calm.refl w).alloc _).alloc _
    |exact Below.drew (((Calm.refl w).alloc _).alloc _)
set_option maxHeartbeats 4000000 in
theorem held_yes (T M:Nat) (w:World) (hz:CellsB w T [.int .i64 0,.map (some M)]) (hlk:∀W,Calm w W→LkAt W M xPath xLse true) :
  Calls Tryz.prog 116 #[.pointer (some ⟨T,0,none⟩),.string ⟨#[47,47,109,97,105,110,47,120]⟩,.string ⟨#[97,110,110]⟩,.int .i64 1] w fun e w'=>e=.returned (.tuple #[.agg #[.string ⟨#[47,47,109,97,105,110,47,120]⟩,.string ⟨#[97,110,110]⟩,.int .i64 1,.int .i64 0,.int .i64 10],.bool true])∧Calm w w':=by
 have HT:=Lib.hid (fun W (hW:Calm w W)=>hz.calm hW)
 have HL:=Lib.hid hlk
 clear hlk hz
 go_enter Tryz.func116,Tryz.ntmps116
 go_wp2_with fail
 refine (holding_yes T M _ (HT.out _ ((Calm.refl _).alloc _)) (fun W hW=>HL.out W (((Calm.refl _).alloc _).trans hW))).mono ?_
 rintro e w2 ⟨rfl,hc2⟩
 have HC2:=Lib.hid (((Calm.refl w).alloc _).trans hc2)
 obtain⟨hc,hf⟩:(∀b o,b < w.heap.size+1→w2.cell? ⟨b,o,none⟩=(w.alloc (.cells #[.string ⟨#[]⟩,.string ⟨#[]⟩,.int .i64 0,.int .i64 0,.int .i64 0] 115)).cell? ⟨b,o,none⟩)∧(∀b o,b < w.heap.size+1→w2.frozen? ⟨b,o,none⟩=(w.alloc (.cells #[.string ⟨#[]⟩,.string ⟨#[]⟩,.int .i64 0,.int .i64 0,.int .i64 0] 115)).frozen? ⟨b,o,none⟩):=
  ⟨fun b o h=>hc2.cell (p:=⟨b,o,none⟩) (by simpa using h),fun b o h=>hc2.frozen (p:=⟨b,o,none⟩) (by simpa using h)⟩
 have hz2:w.heap.size < w2.heap.size:=by have:=hc2.size;simp at this;omega
 clear hc2
 go_wp2_with fail
 go_region
 all_goals
  go_wp2_with fail
  refine bodyPost_ret (v:=.tuple #[.agg #[.string ⟨#[47,47,109,97,105,110,47,120]⟩,.string ⟨#[97,110,110]⟩,.int .i64 1,.int .i64 0,.int .i64 10],.bool true]) ?_ rfl ⟨rfl,?_⟩
  ·rw[results_cell_slot rfl]
   go_simp
  ·first
    |exact Below.drew (Calm.alloc (calm_set5 HC2.out (Nat.le_refl _) _ _ _ _ _) _)
    |exact Calm.alloc (calm_set5 HC2.out (Nat.le_refl _) _ _ _ _ _) _
theorem holds_yes (T M:Nat) (w:World) (hz:CellsB w T [.int .i64 0,.map (some M)]) (hlk:∀W,Calm w W→LkAt W M xPath xLse true) :
  Calls Tryz.prog 110 #[.pointer (some ⟨T,0,none⟩),.string ⟨#[47,47,109,97,105,110,47,120]⟩,.string ⟨#[97,110,110]⟩,.int .i64 1] w fun e w'=>e=.returned (.bool true)∧Calm w w':=by
 have K:=Lib.hid (held_yes T M w hz hlk)
 clear hz hlk
 go_enter Tryz.func110,Tryz.ntmps110
 go_wp2_with fail
 refine K.out.mono ?_
 rintro e w2 ⟨rfl,hc2⟩
 have HC2:=Lib.hid hc2
 clear hc2
 go_wp2_with fail
 go_ret
 exact⟨rfl,HC2.out.alloc _⟩
def xD:DataW Value:=(DataW.map []).put (.string xPath) (.held (lseV xLse))
theorem lk_x {w:World} {M k:Nat} (h:MapH w M k xD):LkAt w M xPath xLse true:=by
 obtain⟨v,ps,hrun,hv⟩:=World.ownsMap.look_ok h keyS_law Tryz.underlying116 (zero_lse w) (show heldR (lseV noL)=some (.held (lseV noL),[]) from rfl) (keyS_of xPath (by decide))
 have hat:∀z,xD.atKey (.string xPath) z=.held (lseV xLse):=fun z=>rfl
 have:v=lseV xLse:=by
  rw[hat] at hv
  simp[heldR] at hv
  exact hv.1
 unfold LkAt
 rw[hrun,this]
 rfl
set_option maxRecDepth 100000 in
set_option maxHeartbeats 8000000 in
theorem acquire_c (T M k:Nat) (w:World) (hz:CellsB w T [.int .i64 0,.map (some M)]) (hm:MapH w M k (.map [])) (hk:k≤1000) (hTM:T≠M) :
  Calls Tryz.prog 75 #[.pointer (some ⟨T,0,none⟩),.string ⟨#[47,47,109,97,105,110,47,120]⟩,.string ⟨#[97,110,110]⟩,.int .i64 10] w fun e w'=>e=.returned (.tuple #[.agg #[.string ⟨#[47,47,109,97,105,110,47,120]⟩,.string ⟨#[97,110,110]⟩,.int .i64 1,.int .i64 0,.int .i64 10],.int .i64 0])∧MapH w' M (k+1) xD∧Kp (fun i=>i=M) w w':=by
 have HT:=Lib.hid (fun W (hW:Calm w W)=>hz.calm hW)
 have HM:=Lib.hid (fun W (hW:Calm w W)=>hm.calm hW)
 have KP:=Lib.hid fun (W:World)=>lpath_c xPath W (by decide)
 have KN:=Lib.hid fun (W:World)=>lname_c annN W (by decide)
 have KH:=Lib.hid fun (W:World) (hW:Calm w W)=>holding_no T M xPath W (hz.calm hW) (fun W' hW'=>lk_no (hm.calm (hW.trans hW')) xPath (by decide))
 have lM:=hm.lt
 have lT:=hz.lt
 clear hz hm
 go_enter Tryz.func75,Tryz.ntmps75
 go_wp2_with fail
 refine (KP.out _).mono ?_
 rintro e w2 ⟨rfl,rfl⟩
 rw[show pathS xPath=true from by decide]
 go_wp2_with fail
 refine (KN.out _).mono ?_
 rintro e w2 ⟨rfl,rfl⟩
 rw[show nameS annN=true from by decide]
 go_wp2_with fail
 refine (lterm_c 10 _).mono ?_
 rintro e w2 ⟨rfl,rfl⟩
 go_wp2_with fail
 refine (KH.out _ ((Calm.refl w).alloc _)).mono ?_
 rintro e w2 ⟨rfl,hc2⟩
 have HC2:=Lib.hid (((Calm.refl w).alloc _).trans hc2)
 have HC21:=Lib.hid hc2
 have hl:LkAt (w2.alloc (.cells #[.string ⟨#[]⟩,.string ⟨#[]⟩,.int .i64 0,.int .i64 0,.int .i64 0] 115)) M xPath noL false:=lk_no (HM.out _ (HC2.out.alloc _)) xPath (by decide)
 have hl:(Instr.lookup 116 (.map (some M)) (.string ⟨#[47,47,109,97,105,110,47,120]⟩) true).run Tryz.prog (w2.alloc (.cells #[.string ⟨#[]⟩,.string ⟨#[]⟩,.int .i64 0,.int .i64 0,.int .i64 0] 115))=.ok (.tuple #[.agg #[.string ⟨#[]⟩,.string ⟨#[]⟩,.int .i64 0,.int .i64 0,.int .i64 0],.bool false]) (w2.alloc (.cells #[.string ⟨#[]⟩,.string ⟨#[]⟩,.int .i64 0,.int .i64 0,.int .i64 0] 115)):=hl
 have hln:∀ty,(Builtin.len_ #[116] ty #[.map (some M)]).run Tryz.prog ((w2.alloc (.cells #[.string ⟨#[]⟩,.string ⟨#[]⟩,.int .i64 0,.int .i64 0,.int .i64 0] 115)).alloc (.cells #[.string ⟨#[]⟩,.string ⟨#[]⟩,.int .i64 0,.int .i64 0,.int .i64 0] 115))=.ok (.int .i64 0) ((w2.alloc (.cells #[.string ⟨#[]⟩,.string ⟨#[]⟩,.int .i64 0,.int .i64 0,.int .i64 0] 115)).alloc (.cells #[.string ⟨#[]⟩,.string ⟨#[]⟩,.int .i64 0,.int .i64 0,.int .i64 0] 115)):=fun ty=>World.ownsMap.len (HM.out _ ((HC2.out.alloc _).alloc _)) Tryz.underlying116 ty
 obtain⟨hc,hf⟩:(∀b o,b < w.heap.size+1→w2.cell? ⟨b,o,none⟩=(w.alloc (.cells #[.string ⟨#[]⟩,.string ⟨#[]⟩,.int .i64 0,.int .i64 0,.int .i64 0] 115)).cell? ⟨b,o,none⟩)∧(∀b o,b < w.heap.size+1→w2.frozen? ⟨b,o,none⟩=(w.alloc (.cells #[.string ⟨#[]⟩,.string ⟨#[]⟩,.int .i64 0,.int .i64 0,.int .i64 0] 115)).frozen? ⟨b,o,none⟩):=
  ⟨fun b o h=>hc2.cell (p:=⟨b,o,none⟩) (by simpa using h),fun b o h=>hc2.frozen (p:=⟨b,o,none⟩) (by simpa using h)⟩
 have hz2:w.heap.size < w2.heap.size:=by have:=hc2.size;simp at this;omega
 have c0:=(HT.out w (Calm.refl _)).at_ 0 _ rfl
 have c1:=(HT.out w (Calm.refl _)).at_ 1 _ rfl
 have lT2:T < w2.heap.size:=by omega
 clear hc2
 have h8:CellsB w2 w.heap.size [.string ⟨#[]⟩,.string ⟨#[]⟩,.int .i64 0,.int .i64 0,.int .i64 0]:=(CellsB.new w _ _).calm HC21.out
 go_wp2_with fail
 obtain⟨w4,hw4⟩:∃w4,w4=(w2.alloc (.cells #[.string ⟨#[]⟩,.string ⟨#[]⟩,.int .i64 0,.int .i64 0,.int .i64 0] 115)).alloc (.cells #[.string ⟨#[]⟩,.string ⟨#[]⟩,.int .i64 0,.int .i64 0,.int .i64 0] 115):=⟨_,rfl⟩
 have hc4:Calm w2 w4:=by rw[hw4];exact ((Calm.refl _).alloc _).alloc _
 have h12:CellsB w4 (w2.heap.size+1) [.string ⟨#[]⟩,.string ⟨#[]⟩,.int .i64 0,.int .i64 0,.int .i64 0]:=by
  rw[hw4]
  have:=CellsB.new (w2.alloc (.cells #[.string ⟨#[]⟩,.string ⟨#[]⟩,.int .i64 0,.int .i64 0,.int .i64 0] 115)) #[.string ⟨#[]⟩,.string ⟨#[]⟩,.int .i64 0,.int .i64 0,.int .i64 0] 115
  rwa [World.size_alloc] at this
 have HW4:=Lib.hid hw4
 have H8:=Lib.hid (h8.calm hc4)
 have HC4:Hid (Calm w w4):=HC2.out.trans hc4
 rw[←HW4.out]
 have t0:=(HT.out w4 HC4.out).at_ 0 _ rfl
 have t1:=(HT.out w4 HC4.out).at_ 1 _ rfl
 have p2:=h12.at_ 2 _ rfl
 have lT4:T < w4.heap.size:=(HT.out w4 HC4.out).lt
 have l12:=h12.lt
 clear hc hf hz2 c0 c1 lT2 hl hln hw4 h8 hc4 h12
 go_region
 all_goals
  go_wp2_with fail
  obtain⟨w5,hw5⟩:∃w5,w5=(w4.alloc (.cells #[.string ⟨#[47,47,109,97,105,110,47,120]⟩,.string ⟨#[97,110,110]⟩,.int .i64 1,.int .i64 0,.int .i64 10] 115)).drew:=⟨_,rfl⟩
  have hc5:Calm w4 w5:=by rw[hw5];exact Below.drew ((Calm.refl _).alloc _)
  have h14:CellsB w5 w4.heap.size [.string ⟨#[47,47,109,97,105,110,47,120]⟩,.string ⟨#[97,110,110]⟩,.int .i64 1,.int .i64 0,.int .i64 10]:=by
   rw[hw5]
   exact (CellsB.new w4 _ _).calm (Below.drew (Calm.refl _))
  have HC5:Hid (Calm w w5):=HC4.out.trans hc5
  have hm5:=HM.out w5.drew (Below.drew HC5.out)
  obtain⟨w6,hrun6,hown6,hg6⟩:=World.ownsMap.update hm5 keyS_law Tryz.underlying116 (by unfold maxLen;omega) (keyS_of xPath (by decide)) (show heldR (lseV xLse)=some (.held (lseV xLse),[]) from rfl)
  replace hrun6:(Instr.mapUpdate 116 (.map (some M)) (.string ⟨#[47,47,109,97,105,110,47,120]⟩) (.agg #[.string ⟨#[47,47,109,97,105,110,47,120]⟩,.string ⟨#[97,110,110]⟩,.int .i64 1,.int .i64 0,.int .i64 10])).run Tryz.prog w5.drew=.ok () w6:=hrun6
  have h14':=((h14.calm (Below.drew (Calm.refl _))).grown hg6 (fun e=>by cases e;have:=HC4.out.size;omega))
  have h8':=(((H8.out.calm hc5).calm (Below.drew (Calm.refl _))).grown hg6 (fun e=>by cases e;omega))
  have HK6:Hid (Kp (fun i=>i=M) w w6):=((HC5.out.kp _).drew).trans (Kp.grown hg6 (fun i hi=>.inl (by cases hi;rfl)))
  have HM6:=Lib.hid hown6
  have HW5:=Lib.hid hw5
  have t1':=(HT.out w5 HC5.out).at_ 1 _ rfl
  have lT5:=(HT.out w5 HC5.out).lt
  have g0:=h14.at_ 0 _ rfl
  have g1:=h14.at_ 1 _ rfl
  have g2:=h14.at_ 2 _ rfl
  have g3:=h14.at_ 3 _ rfl
  have g4:=h14.at_ 4 _ rfl
  have d0:=h14'.at_ 0 _ rfl
  have d1:=h14'.at_ 1 _ rfl
  have d2:=h14'.at_ 2 _ rfl
  have d3:=h14'.at_ 3 _ rfl
  have d4:=h14'.at_ 4 _ rfl
  have z0:=h8'.at_ 0 _ rfl
  have z1:=h8'.at_ 1 _ rfl
  have z2:=h8'.at_ 2 _ rfl
  have z3:=h8'.at_ 3 _ rfl
  have z4:=h8'.at_ 4 _ rfl
  have zf0:=h8'.fz 0
  have zf1:=h8'.fz 1
  have zf2:=h8'.fz 2
  have zf3:=h8'.fz 3
  have zf4:=h8'.fz 4
  have l6:=h14'.lt
  clear hw5 hc5 h14 hm5 hown6 hg6 h14' h8' t0 t1 p2 lT4 l12
  rw[←HW5.out]
  go_region
  all_goals
   go_wp2_with fail
   refine bodyPost_ret (v:=.tuple #[.agg #[.string ⟨#[47,47,109,97,105,110,47,120]⟩,.string ⟨#[97,110,110]⟩,.int .i64 1,.int .i64 0,.int .i64 10],.int .i64 0]) ?_ rfl ⟨rfl,?_,?_⟩
   ·rw[results_cell_slot rfl]
    go_simp
   ·exact MapH.kp HM6.out (Kp.set5 (Kp.refl (fun i=>i=w.heap.size) w6) (b:=w.heap.size) (.inl rfl) _ _ _ _ _) (by show ¬M=w.heap.size;omega)
   ·exact Kp.set5 HK6.out (.inr (Nat.le_refl _)) _ _ _ _ _
end Go.Proofs.YtcofdlipapnohaaGreatDoor
