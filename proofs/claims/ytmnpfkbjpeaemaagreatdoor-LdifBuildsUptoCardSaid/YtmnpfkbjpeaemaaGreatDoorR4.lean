/- One text out of several: RuneW, OneW, RunesW, WRuneW, TextW, MappedW, RReadyW, PrepW, ReadyW, AvaP. -/
import Derived.Test.YtmnpfkbjpeaemaaGreatDoorRows
import Derived.Test.YtmnpfkbjpeaemaaGreatDoorR1
import Derived.Test.YtmnpfkbjpeaemaaGreatDoorR3
import Derived.Deep.DeepCutAuto
import Derived.Lib.OthersKept
import Derived.Test.YtmnpfkbjpeaemaaGreatDoorR2
import Derived.LoopN
import Derived.Deep.QuietTactic
import Derived.BigQuiet
set_option linter.unusedVariables false
set_option linter.unusedSimpArgs false
set_option maxRecDepth 20000
set_option maxHeartbeats 4000000
namespace Go.Proofs.YtmnpfkbjpeaemaaGreatDoor
open Go.RowKit
namespace prw
open run prp
theorem drop_yes {r:Int}(h:r≤8∨(14≤r∧r≤31)∨(127≤r∧r≤132)∨(134≤r∧r≤159)∨r=173∨(8203≤r∧r≤8207)∨r=65279):true=dropB r:=by unfold dropB;exact(decide_eq_true h).symm
theorem drop_no {r:Int}(h: ¬ (r≤8∨(14≤r∧r≤31)∨(127≤r∧r≤132)∨(134≤r∧r≤159)∨r=173∨(8203≤r∧r≤8207)∨r=65279)):false=dropB r:=by unfold dropB;exact(decide_eq_false h).symm
theorem blank_yes {r:Int}(h:(9≤r∧r≤13)∨r=32∨r=133∨r=160∨r=5760∨(8192≤r∧r≤8202)∨r=8232∨r=8233∨r=8239∨r=8287∨r=12288):true=blankB r:=by unfold blankB;exact(decide_eq_true h).symm
theorem blank_no {r:Int}(h: ¬ ((9≤r∧r≤13)∨r=32∨r=133∨r=160∨r=5760∨(8192≤r∧r≤8202)∨r=8232∨r=8233∨r=8239∨r=8287∨r=12288)):false=blankB r:=by unfold blankB;exact(decide_eq_false h).symm
theorem dropped_any (r:Int)(w:World):Calls Tryz.prog 254 #[.int .i32 r] w fun e w'=>e= .returned (.bool (dropB r))∧w=w':=by
 go_enter Tryz.func254,Tryz.ntmps254;go_wp2;all_goals
  go_ret;refine⟨kt.ret_bool ?_,rfl⟩;first
   | ((try simp only[beq_iff_eq,beq_eq_false_iff_ne,ne_eq,bne_iff_ne]at*);exact drop_yes (by omega))
   | ((try simp only[beq_iff_eq,beq_eq_false_iff_ne,ne_eq,bne_iff_ne]at*);exact drop_no (by omega))
   | (rw[Bool.eq_iff_iff];unfold dropB;(try simp only[beq_iff_eq,beq_eq_false_iff_ne,ne_eq,bne_iff_ne]at*);simp only[Bool.and_eq_true,Bool.or_eq_true,decide_eq_true_eq,beq_iff_eq];omega)
theorem rdropped_any (r:Int)(w:World):Calls Tryz.prog 151 #[.int .i32 r] w fun e w'=>e= .returned (.bool (dropB r))∧w=w':=by
 go_enter Tryz.func151,Tryz.ntmps151;go_wp2;all_goals
  go_ret;refine⟨kt.ret_bool ?_,rfl⟩;first
   | ((try simp only[beq_iff_eq,beq_eq_false_iff_ne,ne_eq,bne_iff_ne]at*);exact drop_yes (by omega))
   | ((try simp only[beq_iff_eq,beq_eq_false_iff_ne,ne_eq,bne_iff_ne]at*);exact drop_no (by omega))
   | (rw[Bool.eq_iff_iff];unfold dropB;(try simp only[beq_iff_eq,beq_eq_false_iff_ne,ne_eq,bne_iff_ne]at*);simp only[Bool.and_eq_true,Bool.or_eq_true,decide_eq_true_eq,beq_iff_eq];omega)
theorem blank_any (r:Int)(w:World):Calls Tryz.prog 255 #[.int .i32 r] w fun e w'=>e= .returned (.bool (blankB r))∧w=w':=by
 go_enter Tryz.func255,Tryz.ntmps255;go_wp2;all_goals
  go_ret;refine⟨kt.ret_bool ?_,rfl⟩;first
   | ((try simp only[beq_iff_eq,beq_eq_false_iff_ne,ne_eq,bne_iff_ne]at*);exact blank_yes (by omega))
   | ((try simp only[beq_iff_eq,beq_eq_false_iff_ne,ne_eq,bne_iff_ne]at*);exact blank_no (by omega))
   | (rw[Bool.eq_iff_iff];unfold blankB;(try simp only[beq_iff_eq,beq_eq_false_iff_ne,ne_eq,bne_iff_ne]at*);simp only[Bool.and_eq_true,Bool.or_eq_true,decide_eq_true_eq,beq_iff_eq];omega)
theorem rblank_any (r:Int)(w:World):Calls Tryz.prog 152 #[.int .i32 r] w fun e w'=>e= .returned (.bool (blankB r))∧w=w':=by
 go_enter Tryz.func152,Tryz.ntmps152;go_wp2;all_goals
  go_ret;refine⟨kt.ret_bool ?_,rfl⟩;first
   | ((try simp only[beq_iff_eq,beq_eq_false_iff_ne,ne_eq,bne_iff_ne]at*);exact blank_yes (by omega))
   | ((try simp only[beq_iff_eq,beq_eq_false_iff_ne,ne_eq,bne_iff_ne]at*);exact blank_no (by omega))
   | (rw[Bool.eq_iff_iff];unfold blankB;(try simp only[beq_iff_eq,beq_eq_false_iff_ne,ne_eq,bne_iff_ne]at*);simp only[Bool.and_eq_true,Bool.or_eq_true,decide_eq_true_eq,beq_iff_eq];omega)
theorem small_any (r:Int)(w:World)(h0:0≤r)(h1:r≤1114111):Calls Tryz.prog 256 #[.int .i32 r] w fun e w'=>e= .returned (.int .i32 (smallI r))∧w=w':=by
 have ha:r+32≤2147483647:=by omega
 have hb:r+80≤2147483647:=by omega
 go_enter Tryz.func256,Tryz.ntmps256;go_wp2;all_goals
  go_ret;refine⟨kt.ret_int ?_,rfl⟩
  (try simp only[bne,Bool.not_eq_true',Bool.not_eq_false',beq_iff_eq,beq_eq_false_iff_ne,ne_eq,bne_iff_ne]at*)
  unfold smallI
  repeat' split
  all_goals omega
theorem rsmall_any (r:Int)(w:World)(h0:0≤r)(h1:r≤1114111):Calls Tryz.prog 153 #[.int .i32 r] w fun e w'=>e= .returned (.int .i32 (smallI r))∧w=w':=by
 have ha:r+32≤2147483647:=by omega
 have hb:r+80≤2147483647:=by omega
 go_enter Tryz.func153,Tryz.ntmps153;go_wp2;all_goals
  go_ret;refine⟨kt.ret_int ?_,rfl⟩
  (try simp only[bne,Bool.not_eq_true',Bool.not_eq_false',beq_iff_eq,beq_eq_false_iff_ne,ne_eq,bne_iff_ne]at*)
  unfold smallI
  repeat' split
  all_goals omega
end prw
open Go.RowKit
namespace prw
open run prp
def oneV (l:List UInt8):Ending:= .returned (.tuple #[.int .i64 ((oneL l).1:Int),.int .i64 ((oneL l).2:Int)])
theorem nth_at (s:ByteArray)(i k:Nat)(h:i+k<s.size):nth (s.data.toList.drop i) k=(s[i+k]'h).toNat:=by rw[←get_nth];have:s.get! (i+k)=s.data[i+k]! :=rfl;rw[this,getElem!_pos s.data (i+k) h];rfl
theorem drop_len (s:ByteArray)(i:Nat):(s.data.toList.drop i).length=s.size-i:=by simp
def finI (v low n:Int):Int × Int:=if v<low∨1114111<v∨(55296≤v∧v≤57343)then(0,0)else(v,n)
def restI (l:List UInt8)(n low:Int):Nat→Nat→Int→Int × Int
 | 0,_,v=>finI v low n
 | f+1,k,v=>if(nth l k:Int)<128∨191<(nth l k:Int)then(0,0)else restI l n low f (k+1) (v*64+(nth l k:Int)-128)
def Cls (c n v low:Int):Prop:=(194≤c∧c<224∧n=2∧v=c-192∧low=128)∨(224≤c∧c<240∧n=3∧v=c-224∧low=2048)∨(240≤c∧c<245∧n=4∧v=c-240∧low=65536)∨((c<194∨245≤c)∧n=0∧v=0∧low=0)
def oneI (l:List UInt8)(p:Int × Int):Prop:=oneV l= .returned (.tuple #[.int .i64 p.1,.int .i64 p.2])
theorem oneI_of {l:List UInt8}{p:Nat × Nat}(h:oneL l=p)(q:Int × Int)(h1:q.1=(p.1:Int))(h2:q.2=(p.2:Int)):oneI l q:=by unfold oneI oneV;rw[h,h1,h2]
theorem cls_none {l:List UInt8}{c v low:Int}(h:Cls c 0 v low)(hc:c=(nth l 0:Int))(h1:128≤c):oneI l (0,0):=by refine oneI_of (p:=(0,0)) ?_ _ rfl rfl;unfold Cls at h;unfold oneL oneR;rw[if_neg (by omega),if_neg (by omega),if_neg (by omega),if_neg (by omega)]
theorem cls_short {l:List UInt8}{c n v low:Int}(h:Cls c n v low)(hc:c=(nth l 0:Int))(h1:128≤c)(hn:(l.length:Int)<n):oneI l (0,0):=by
 refine oneI_of (p:=(0,0)) ?_ _ rfl rfl;unfold Cls at h;unfold oneL oneR;rw[if_neg (by omega)];rcases h with h | h | h | h
 ·rw[if_pos (by omega),if_neg (by omega)]
 ·rw[if_neg (by omega),if_pos (by omega),if_neg (by omega)]
 ·rw[if_neg (by omega),if_neg (by omega),if_pos (by omega),if_neg (by omega)]
 ·omega
theorem finI_fin (V low n:Nat):finI V low n=(((fin V low n).1:Int),((fin V low n).2:Int)):=by
 unfold finI fin;by_cases h:V<low∨1114111<V∨(55296≤V∧V≤57343)
 ·rw[if_pos h,if_pos (by omega)];rfl
 ·rw[if_neg h,if_neg (by omega)]
theorem cls_rest {l:List UInt8}{c n v low:Int}(h:Cls c n v low)(hc:c=(nth l 0:Int))(h1:128≤c)(hn:n≤(l.length:Int))(h0:n≠0):oneI l (restI l n low (n.toNat-1) 1 v):=by
 unfold Cls at h;rcases h with⟨a1,a2,rfl,rfl,rfl⟩ | ⟨a1,a2,rfl,rfl,rfl⟩ | ⟨a1,a2,rfl,rfl,rfl⟩ | h
 ·show oneI l (if(nth l 1:Int)<128∨191<(nth l 1:Int)then(0,0)else finI ((c-192)*64+(nth l 1:Int)-128) 128 2);by_cases d1:cont (nth l 1)
  ·unfold cont at d1;rw[if_neg (by omega)];rw[show(c-192)*64+(nth l 1:Int)-128=(((nth l 0-192)*64+(nth l 1-128):Nat):Int)from by omega];refine oneI_of (p:=fin ((nth l 0-192)*64+(nth l 1-128)) 128 2) ?_ _ (by rw[show(128:Int)=((128:Nat):Int)from rfl,show(2:Int)=((2:Nat):Int)from rfl,finI_fin]) (by rw[show(128:Int)=((128:Nat):Int)from rfl,show(2:Int)=((2:Nat):Int)from rfl,finI_fin]);unfold oneL oneR cont;rw[if_neg (by omega),if_pos (by omega),if_pos (by omega)]
  ·rw[if_pos (by unfold cont at d1;omega)];refine oneI_of (p:=(0,0)) ?_ _ rfl rfl;unfold oneL oneR;rw[if_neg (by omega),if_pos (by omega),if_neg (by rintro⟨_,g⟩;exact d1 g)]
 ·show oneI l (if(nth l 1:Int)<128∨191<(nth l 1:Int)then(0,0)else if(nth l 2:Int)<128∨191<(nth l 2:Int)then(0,0)else finI (((c-224)*64+(nth l 1:Int)-128)*64+(nth l 2:Int)-128) 2048 3);by_cases d:cont (nth l 1)∧cont (nth l 2)
  ·unfold cont at d;rw[if_neg (by omega),if_neg (by omega)];rw[show((c-224)*64+(nth l 1:Int)-128)*64+(nth l 2:Int)-128=((((nth l 0-224)*64+(nth l 1-128))*64+(nth l 2-128):Nat):Int)from by omega];refine oneI_of (p:=fin (((nth l 0-224)*64+(nth l 1-128))*64+(nth l 2-128)) 2048 3) ?_ _ (by rw[show(2048:Int)=((2048:Nat):Int)from rfl,show(3:Int)=((3:Nat):Int)from rfl,finI_fin]) (by rw[show(2048:Int)=((2048:Nat):Int)from rfl,show(3:Int)=((3:Nat):Int)from rfl,finI_fin]);unfold oneL oneR cont;rw[if_neg (by omega),if_neg (by omega),if_pos (by omega),if_pos (by omega)]
  ·have e:(if(nth l 1:Int)<128∨191<(nth l 1:Int)then((0,0):Int × Int)else if(nth l 2:Int)<128∨191<(nth l 2:Int)then(0,0)else finI (((c-224)*64+(nth l 1:Int)-128)*64+(nth l 2:Int)-128) 2048 3)=(0,0):=by
    unfold cont at d;by_cases d1:(nth l 1:Int)<128∨191<(nth l 1:Int)
    ·rw[if_pos d1]
    ·rw[if_neg d1,if_pos (by omega)]
   rw[e];refine oneI_of (p:=(0,0)) ?_ _ rfl rfl;unfold oneL oneR;rw[if_neg (by omega),if_neg (by omega),if_pos (by omega),if_neg (by rintro⟨_,g⟩;exact d g)]
 ·show oneI l (if(nth l 1:Int)<128∨191<(nth l 1:Int)then(0,0)else if(nth l 2:Int)<128∨191<(nth l 2:Int)then(0,0)else if(nth l 3:Int)<128∨191<(nth l 3:Int)then(0,0)else finI ((((c-240)*64+(nth l 1:Int)-128)*64+(nth l 2:Int)-128)*64+(nth l 3:Int)-128) 65536 4);by_cases d:cont (nth l 1)∧cont (nth l 2)∧cont (nth l 3)
  ·unfold cont at d;rw[if_neg (by omega),if_neg (by omega),if_neg (by omega)];rw[show(((c-240)*64+(nth l 1:Int)-128)*64+(nth l 2:Int)-128)*64+(nth l 3:Int)-128=(((((nth l 0-240)*64+(nth l 1-128))*64+(nth l 2-128))*64+(nth l 3-128):Nat):Int)from by omega];refine oneI_of (p:=fin ((((nth l 0-240)*64+(nth l 1-128))*64+(nth l 2-128))*64+(nth l 3-128)) 65536 4) ?_ _ (by rw[show(65536:Int)=((65536:Nat):Int)from rfl,show(4:Int)=((4:Nat):Int)from rfl,finI_fin]) (by rw[show(65536:Int)=((65536:Nat):Int)from rfl,show(4:Int)=((4:Nat):Int)from rfl,finI_fin]);unfold oneL oneR cont;rw[if_neg (by omega),if_neg (by omega),if_neg (by omega),if_pos (by omega),if_pos (by omega)]
  ·have e:(if(nth l 1:Int)<128∨191<(nth l 1:Int)then((0,0):Int × Int)else if(nth l 2:Int)<128∨191<(nth l 2:Int)then(0,0)else if(nth l 3:Int)<128∨191<(nth l 3:Int)then(0,0)else finI ((((c-240)*64+(nth l 1:Int)-128)*64+(nth l 2:Int)-128)*64+(nth l 3:Int)-128) 65536 4)=(0,0):=by
    unfold cont at d;by_cases d1:(nth l 1:Int)<128∨191<(nth l 1:Int)
    ·rw[if_pos d1]
    ·by_cases d2:(nth l 2:Int)<128∨191<(nth l 2:Int)
     ·rw[if_neg d1,if_pos d2]
     ·rw[if_neg d1,if_neg d2,if_pos (by omega)]
   rw[e];refine oneI_of (p:=(0,0)) ?_ _ rfl rfl;unfold oneL oneR;rw[if_neg (by omega),if_neg (by omega),if_neg (by omega),if_pos (by omega),if_neg (by rintro⟨_,g⟩;exact d g)]
 ·omega
def Vbd (k:Nat)(v:Int):Prop:=0≤v∧((k=1∧v<32)∨(k=2∧v<2048)∨(k=3∧v<131072)∨(k=4∧v<8388608))
theorem restI_stop {l:List UInt8}{n low:Int}{f k:Nat}{v:Int}(h:oneI l (restI l n low (f+1) k v))(hd:(nth l k:Int)<128∨191<(nth l k:Int)):oneI l (0,0):=by have e:restI l n low (f+1) k v=(0,0):=if_pos hd;rw[e]at h;exact h
theorem restI_on {l:List UInt8}{n low:Int}{f k:Nat}{v:Int}(h:oneI l (restI l n low (f+1) k v))(hd: ¬ ((nth l k:Int)<128∨191<(nth l k:Int))):oneI l (restI l n low f (k+1) (v*64+(nth l k:Int)-128)):=by have e:restI l n low (f+1) k v=restI l n low f (k+1) (v*64+(nth l k:Int)-128):=if_neg hd;rw[e]at h;exact h
def BadV (v low:Int):Prop:=v<low∨1114111<v∨(55296≤v∧v≤57343)
theorem finI_bad {v low:Int}(n:Int)(hd:BadV v low):finI v low n=(0,0):=if_pos hd
theorem finI_ok {v low:Int}(n:Int)(hd: ¬BadV v low):finI v low n=(v,n):=if_neg hd
theorem restI_bad {l:List UInt8}{n low:Int}{k:Nat}{v:Int}(h:oneI l (restI l n low 0 k v))(hd:BadV v low):oneI l (0,0):=by have e:restI l n low 0 k v=finI v low n:=rfl;rw[e,finI_bad n hd]at h;exact h
theorem restI_ok {l:List UInt8}{n low:Int}{k:Nat}{v:Int}(h:oneI l (restI l n low 0 k v))(hd: ¬BadV v low):oneI l (v,n):=by have e:restI l n low 0 k v=finI v low n:=rfl;rw[e,finI_ok n hd]at h;exact h
theorem one_2 (s:ByteArray)(i:Nat)(w:World)(hi:i<s.size)(hs:s.size≤1100000)(c1:194≤((s[i]'hi).toNat:Int))(c2:((s[i]'hi).toNat:Int)<224):Calls Tryz.prog 202 #[.string s,.int .i64 (i:Int)] w fun e w'=>e=oneV (s.data.toList.drop i)∧w=w':=by
 have E0:Hid (nth (s.data.toList.drop i) 0=(s[i]'hi).toNat):=nth_at s i 0 (by omega);have LL:=drop_len s i;have c0: ¬ ((s[i]'hi).toNat:Int)<128:=by omega
 have HC:Cls ((s[i]'hi).toNat:Int) 2 (((s[i]'hi).toNat:Int)-192) 128:=by unfold Cls;omega
 by_cases hl:(i:Int)+2≤(s.size:Int)
 ·have hl': ¬ (s.size:Int)<(i:Int)+2:=by omega
  have HR:Hid (oneI (s.data.toList.drop i) (restI (s.data.toList.drop i) 2 128 1 1 (((s[i]'hi).toNat:Int)-192))):=cls_rest HC (by rw[E0.out]) (by omega) (by rw[LL];omega) (by omega);clear LL HC;go_enter Tryz.func202,Tryz.ntmps202;go_wp2_with fail;go_loop [8,10,11] (fun vv kv dv=> ∃ (k:Nat) (v:Int),vv= .int .i64 v∧kv= .int .i64 (k:Int)∧1≤k∧k≤2∧Hid (Vbd k v)∧Hid (oneI (s.data.toList.drop i) (restI (s.data.toList.drop i) 2 128 (2-k) k v))) (fun _ kv _=>2- (intOf kv).toNat);case atStart=>exact⟨1,_,rfl,rfl,by omega,by omega,by show Vbd _ _;unfold Vbd;omega,HR⟩
  case round=>
   obtain⟨k,v,rfl,rfl,hk1,hk2,HV,HP⟩:=hrel;by_cases hkn:k<2
   ·have hkn':(k:Int)<2:=(by omega);have hik:i+k<s.size:=(by omega);have hik':(i:Int)+(k:Int)<(s.size:Int):=(by omega);have hik0:0≤(i:Int)+(k:Int):=(by omega);have EK:Hid (nth (s.data.toList.drop i) k=(s[i+k]'hik).toNat):=nth_at s i k hik;have g256:((s[i+k]'hik).toNat:Int)<256:=(by have:=(s[i+k]'hik).toNat_lt;omega);have d0:0≤((s[i+k]'hik).toNat:Int):=(by omega);have HF:Hid (2-k=(2- (k+1))+1):=(by show _=_;omega);rw[HF.out]at HP;by_cases hd:((s[i+k]'hik).toNat:Int)<128
    ·have HE:Hid (oneI (s.data.toList.drop i) (0,0)):=restI_stop HP.out (by rw[EK.out];exact Or.inl hd);clear HP;go_wp2_with fail;go_ret2;exact⟨HE.out.symm,rfl⟩
    ·by_cases hd2:191<((s[i+k]'hik).toNat:Int)
     ·have HE:Hid (oneI (s.data.toList.drop i) (0,0)):=restI_stop HP.out (by rw[EK.out];exact Or.inr hd2);clear HP;go_wp2_with fail;go_ret2;exact⟨HE.out.symm,rfl⟩
     ·have HE:Hid (oneI (s.data.toList.drop i) (restI (s.data.toList.drop i) 2 128 (2- (k+1)) (k+1) (v*64+((s[i+k]'hik).toNat:Int)-128))):=(by have:=restI_on HP.out (by rw[EK.out];omega);rw[EK.out]at this;exact this);have v1:0≤v:=HV.out.1;have v2:v<8388608:=(by have:=HV.out;unfold Vbd at this;omega);have HV2:Hid (Vbd (k+1) (v*64+((s[i+k]'hik).toNat:Int)-128)):=(by have:=HV.out;show Vbd _ _;unfold Vbd at this ⊢;omega);clear HP;go_wp2_with fail;go_round;case rel=>exact⟨k+1,_,rfl,by go_num,by omega,by omega,HV2,HE⟩
      case measure=>simp[intOf];omega
   ·obtain rfl:k=2:=(by omega);have v1:0≤v:=HV.out.1;have v2:v<8388608:=(by have:=HV.out;unfold Vbd at this;omega);go_wp2_with fail;all_goals
     go_ret2;refine⟨?_,rfl⟩;first
      | exact(restI_bad HP.out (by unfold BadV;omega)).symm
      | exact(restI_ok HP.out (by unfold BadV;omega)).symm
 ·have hl':(s.size:Int)<(i:Int)+2:=by omega
  have HE:Hid (oneI (s.data.toList.drop i) (0,0)):=cls_short HC (by rw[E0.out]) (by omega) (by rw[LL];omega);clear LL HC;go_enter Tryz.func202,Tryz.ntmps202;go_wp2_with fail;go_ret2;exact⟨HE.out.symm,rfl⟩
theorem one_3 (s:ByteArray)(i:Nat)(w:World)(hi:i<s.size)(hs:s.size≤1100000)(c1:224≤((s[i]'hi).toNat:Int))(c2:((s[i]'hi).toNat:Int)<240):Calls Tryz.prog 202 #[.string s,.int .i64 (i:Int)] w fun e w'=>e=oneV (s.data.toList.drop i)∧w=w':=by
 have E0:Hid (nth (s.data.toList.drop i) 0=(s[i]'hi).toNat):=nth_at s i 0 (by omega);have LL:=drop_len s i;have c0: ¬ ((s[i]'hi).toNat:Int)<128:=by omega
 have HC:Cls ((s[i]'hi).toNat:Int) 3 (((s[i]'hi).toNat:Int)-224) 2048:=by unfold Cls;omega
 by_cases hl:(i:Int)+3≤(s.size:Int)
 ·have hl': ¬ (s.size:Int)<(i:Int)+3:=by omega
  have HR:Hid (oneI (s.data.toList.drop i) (restI (s.data.toList.drop i) 3 2048 2 1 (((s[i]'hi).toNat:Int)-224))):=cls_rest HC (by rw[E0.out]) (by omega) (by rw[LL];omega) (by omega);clear LL HC;go_enter Tryz.func202,Tryz.ntmps202;go_wp2_with fail;go_loop [8,10,11] (fun vv kv dv=> ∃ (k:Nat) (v:Int),vv= .int .i64 v∧kv= .int .i64 (k:Int)∧1≤k∧k≤3∧Hid (Vbd k v)∧Hid (oneI (s.data.toList.drop i) (restI (s.data.toList.drop i) 3 2048 (3-k) k v))) (fun _ kv _=>3- (intOf kv).toNat);case atStart=>exact⟨1,_,rfl,rfl,by omega,by omega,by show Vbd _ _;unfold Vbd;omega,HR⟩
  case round=>
   obtain⟨k,v,rfl,rfl,hk1,hk2,HV,HP⟩:=hrel;by_cases hkn:k<3
   ·have hkn':(k:Int)<3:=(by omega);have hik:i+k<s.size:=(by omega);have hik':(i:Int)+(k:Int)<(s.size:Int):=(by omega);have hik0:0≤(i:Int)+(k:Int):=(by omega);have EK:Hid (nth (s.data.toList.drop i) k=(s[i+k]'hik).toNat):=nth_at s i k hik;have g256:((s[i+k]'hik).toNat:Int)<256:=(by have:=(s[i+k]'hik).toNat_lt;omega);have d0:0≤((s[i+k]'hik).toNat:Int):=(by omega);have HF:Hid (3-k=(3- (k+1))+1):=(by show _=_;omega);rw[HF.out]at HP;by_cases hd:((s[i+k]'hik).toNat:Int)<128
    ·have HE:Hid (oneI (s.data.toList.drop i) (0,0)):=restI_stop HP.out (by rw[EK.out];exact Or.inl hd);clear HP;go_wp2_with fail;go_ret2;exact⟨HE.out.symm,rfl⟩
    ·by_cases hd2:191<((s[i+k]'hik).toNat:Int)
     ·have HE:Hid (oneI (s.data.toList.drop i) (0,0)):=restI_stop HP.out (by rw[EK.out];exact Or.inr hd2);clear HP;go_wp2_with fail;go_ret2;exact⟨HE.out.symm,rfl⟩
     ·have HE:Hid (oneI (s.data.toList.drop i) (restI (s.data.toList.drop i) 3 2048 (3- (k+1)) (k+1) (v*64+((s[i+k]'hik).toNat:Int)-128))):=(by have:=restI_on HP.out (by rw[EK.out];omega);rw[EK.out]at this;exact this);have v1:0≤v:=HV.out.1;have v2:v<8388608:=(by have:=HV.out;unfold Vbd at this;omega);have HV2:Hid (Vbd (k+1) (v*64+((s[i+k]'hik).toNat:Int)-128)):=(by have:=HV.out;show Vbd _ _;unfold Vbd at this ⊢;omega);clear HP;go_wp2_with fail;go_round;case rel=>exact⟨k+1,_,rfl,by go_num,by omega,by omega,HV2,HE⟩
      case measure=>simp[intOf];omega
   ·obtain rfl:k=3:=(by omega);have v1:0≤v:=HV.out.1;have v2:v<8388608:=(by have:=HV.out;unfold Vbd at this;omega);go_wp2_with fail;all_goals
     go_ret2;refine⟨?_,rfl⟩;first
      | exact(restI_bad HP.out (by unfold BadV;omega)).symm
      | exact(restI_ok HP.out (by unfold BadV;omega)).symm
 ·have hl':(s.size:Int)<(i:Int)+3:=by omega
  have HE:Hid (oneI (s.data.toList.drop i) (0,0)):=cls_short HC (by rw[E0.out]) (by omega) (by rw[LL];omega);clear LL HC;go_enter Tryz.func202,Tryz.ntmps202;go_wp2_with fail;go_ret2;exact⟨HE.out.symm,rfl⟩
theorem one_4 (s:ByteArray)(i:Nat)(w:World)(hi:i<s.size)(hs:s.size≤1100000)(c1:240≤((s[i]'hi).toNat:Int))(c2:((s[i]'hi).toNat:Int)<245):Calls Tryz.prog 202 #[.string s,.int .i64 (i:Int)] w fun e w'=>e=oneV (s.data.toList.drop i)∧w=w':=by
 have E0:Hid (nth (s.data.toList.drop i) 0=(s[i]'hi).toNat):=nth_at s i 0 (by omega);have LL:=drop_len s i;have c0: ¬ ((s[i]'hi).toNat:Int)<128:=by omega
 have HC:Cls ((s[i]'hi).toNat:Int) 4 (((s[i]'hi).toNat:Int)-240) 65536:=by unfold Cls;omega
 by_cases hl:(i:Int)+4≤(s.size:Int)
 ·have hl': ¬ (s.size:Int)<(i:Int)+4:=by omega
  have HR:Hid (oneI (s.data.toList.drop i) (restI (s.data.toList.drop i) 4 65536 3 1 (((s[i]'hi).toNat:Int)-240))):=cls_rest HC (by rw[E0.out]) (by omega) (by rw[LL];omega) (by omega);clear LL HC;go_enter Tryz.func202,Tryz.ntmps202;go_wp2_with fail;go_loop [8,10,11] (fun vv kv dv=> ∃ (k:Nat) (v:Int),vv= .int .i64 v∧kv= .int .i64 (k:Int)∧1≤k∧k≤4∧Hid (Vbd k v)∧Hid (oneI (s.data.toList.drop i) (restI (s.data.toList.drop i) 4 65536 (4-k) k v))) (fun _ kv _=>4- (intOf kv).toNat);case atStart=>exact⟨1,_,rfl,rfl,by omega,by omega,by show Vbd _ _;unfold Vbd;omega,HR⟩
  case round=>
   obtain⟨k,v,rfl,rfl,hk1,hk2,HV,HP⟩:=hrel;by_cases hkn:k<4
   ·have hkn':(k:Int)<4:=(by omega);have hik:i+k<s.size:=(by omega);have hik':(i:Int)+(k:Int)<(s.size:Int):=(by omega);have hik0:0≤(i:Int)+(k:Int):=(by omega);have EK:Hid (nth (s.data.toList.drop i) k=(s[i+k]'hik).toNat):=nth_at s i k hik;have g256:((s[i+k]'hik).toNat:Int)<256:=(by have:=(s[i+k]'hik).toNat_lt;omega);have d0:0≤((s[i+k]'hik).toNat:Int):=(by omega);have HF:Hid (4-k=(4- (k+1))+1):=(by show _=_;omega);rw[HF.out]at HP;by_cases hd:((s[i+k]'hik).toNat:Int)<128
    ·have HE:Hid (oneI (s.data.toList.drop i) (0,0)):=restI_stop HP.out (by rw[EK.out];exact Or.inl hd);clear HP;go_wp2_with fail;go_ret2;exact⟨HE.out.symm,rfl⟩
    ·by_cases hd2:191<((s[i+k]'hik).toNat:Int)
     ·have HE:Hid (oneI (s.data.toList.drop i) (0,0)):=restI_stop HP.out (by rw[EK.out];exact Or.inr hd2);clear HP;go_wp2_with fail;go_ret2;exact⟨HE.out.symm,rfl⟩
     ·have HE:Hid (oneI (s.data.toList.drop i) (restI (s.data.toList.drop i) 4 65536 (4- (k+1)) (k+1) (v*64+((s[i+k]'hik).toNat:Int)-128))):=(by have:=restI_on HP.out (by rw[EK.out];omega);rw[EK.out]at this;exact this);have v1:0≤v:=HV.out.1;have v2:v<8388608:=(by have:=HV.out;unfold Vbd at this;omega);have HV2:Hid (Vbd (k+1) (v*64+((s[i+k]'hik).toNat:Int)-128)):=(by have:=HV.out;show Vbd _ _;unfold Vbd at this ⊢;omega);clear HP;go_wp2_with fail;go_round;case rel=>exact⟨k+1,_,rfl,by go_num,by omega,by omega,HV2,HE⟩
      case measure=>simp[intOf];omega
   ·obtain rfl:k=4:=(by omega);have v1:0≤v:=HV.out.1;have v2:v<8388608:=(by have:=HV.out;unfold Vbd at this;omega);go_wp2_with fail;all_goals
     go_ret2;refine⟨?_,rfl⟩;first
      | exact(restI_bad HP.out (by unfold BadV;omega)).symm
      | exact(restI_ok HP.out (by unfold BadV;omega)).symm
 ·have hl':(s.size:Int)<(i:Int)+4:=by omega
  have HE:Hid (oneI (s.data.toList.drop i) (0,0)):=cls_short HC (by rw[E0.out]) (by omega) (by rw[LL];omega);clear LL HC;go_enter Tryz.func202,Tryz.ntmps202;go_wp2_with fail;go_ret2;exact⟨HE.out.symm,rfl⟩
theorem one_any (s:ByteArray)(i:Nat)(w:World)(hi:i<s.size)(hs:s.size≤1100000):Calls Tryz.prog 202 #[.string s,.int .i64 (i:Int)] w fun e w'=>e=oneV (s.data.toList.drop i)∧w=w':=by
 have E0:Hid (nth (s.data.toList.drop i) 0=(s[i]'hi).toNat):=nth_at s i 0 (by omega);by_cases c0:((s[i]'hi).toNat:Int)<128
 ·have E:Hid (oneV (s.data.toList.drop i)= .returned (.tuple #[.int .i64 ((s[i]'hi).toNat:Int),.int .i64 1])):=by refine oneI_of (p:=((s[i]'hi).toNat,1)) ?_ (((s[i]'hi).toNat:Int),1) rfl rfl;have e0:=E0.out;unfold oneL oneR;rw[if_pos (by omega),e0]
  have d0:0≤((s[i]'hi).toNat:Int):=by omega
  clear E0;go_enter Tryz.func202,Tryz.ntmps202;go_wp2_with fail;go_ret2;exact⟨E.out.symm,rfl⟩
 ·by_cases c2:194≤((s[i]'hi).toNat:Int)∧((s[i]'hi).toNat:Int)<224
  ·exact one_2 s i w hi hs c2.1 c2.2
  ·by_cases c3:224≤((s[i]'hi).toNat:Int)∧((s[i]'hi).toNat:Int)<240
   ·exact one_3 s i w hi hs c3.1 c3.2
   ·by_cases c4:240≤((s[i]'hi).toNat:Int)∧((s[i]'hi).toNat:Int)<245
    ·exact one_4 s i w hi hs c4.1 c4.2
    ·have HE:Hid (oneI (s.data.toList.drop i) (0,0)):=cls_none (c:=((s[i]'hi).toNat:Int)) (v:=0) (low:=0) (by unfold Cls;omega) (by rw[E0.out]) (by omega);have g256:((s[i]'hi).toNat:Int)<256:=(by have:=(s[i]'hi).toNat_lt;omega);have f0:128≤((s[i]'hi).toNat:Int):=(by omega);clear E0 c0;by_cases a1:((s[i]'hi).toNat:Int)<194
     ·have a2:((s[i]'hi).toNat:Int)<224:=(by omega);have a3:((s[i]'hi).toNat:Int)<240:=(by omega);clear c2 c3 c4;go_enter Tryz.func202,Tryz.ntmps202;go_wp2_with fail;go_ret2;exact⟨HE.out.symm,rfl⟩
     ·have a2:245≤((s[i]'hi).toNat:Int):=(by omega);have a4:240≤((s[i]'hi).toNat:Int):=(by omega);have a5:224≤((s[i]'hi).toNat:Int):=(by omega);clear c2 c3 c4;go_enter Tryz.func202,Tryz.ntmps202;go_wp2_with fail;go_ret2;exact⟨HE.out.symm,rfl⟩
end prw
open Go.RowKit
namespace prw
open run prp
def rcells (m:List Int):List Value:=m.map (Value.int .i32 ·)
theorem rcells_length (m:List Int):(rcells m).length=m.length:=by simp[rcells]
theorem rcells_append (a b:List Int):rcells (a++b)=rcells a++rcells b:=by simp[rcells]
theorem infoRune:(Tryz.prog.info? 21).map (fun i=>(i.zero,i.size,i.bytes))=some (some (.int .i32 0),1,4):=by kernel_rfl
def OwnR (w:World)(B:Nat)(v:Value)(m:List Int):Prop:=w.ownsRow B 21 1 v (rcells m).length (rcells m)
theorem ownR_nil (w:World)(B:Nat):OwnR w B (.slice none 0 0) []:=World.ownsRow_nil _ _ _ _
theorem ownR_form {w:World}{B:Nat}{v:Value}{m:List Int}(h:OwnR w B v m): ∃ (ao:Option Addr) (cap:Nat),v= .slice ao m.length cap:=by obtain⟨ao,cap,hv,_⟩:=kt.row_slice h;rw[rcells_length]at hv;exact⟨ao,cap,hv⟩
theorem ownR_mono {w:World}{B B':Nat}{v:Value}{m:List Int}(h:OwnR w B v m)(hB:B'≤B):OwnR w B' v m:=by
 refine⟨h.1,?_⟩;rcases h.2 with h0 | ⟨g,cap,cur,hv,hBg,hg,h1,h2,h3,h4⟩
 ·exact Or.inl h0
 ·exact Or.inr ⟨g,cap,cur,hv,by omega,hg,h1,h2,h3,h4⟩
theorem row_iter {w:World}{B k pos pos':Nat}{e:TypeId}{v:Value}{n:Nat}{xs:List Value}{s:ByteArray}(h:w.ownsRow B e 1 v n xs)(hk:w.heap[k]? =some (.stringIter s pos)):(w.iterAt k s pos').ownsRow B e 1 v n xs:=by
 refine⟨h.1,?_⟩;rcases h.2 with h0 | ⟨g,cap,cur,hv,hBg,hg,h1,h2,h3,h4⟩
 ·exact Or.inl h0
 ·refine Or.inr ⟨g,cap,cur,hv,hBg,?_,h1,h2,h3,h4⟩;rw[Lib.iterAt_other _ _ _ _ _ (by rintro rfl;rw[hk]at hg;cases hg)];exact hg
theorem ownR_app {w:World}{B:Nat}{v:Value}{m:List Int}(x:Int)(hown:OwnR w B v m)(hl:m.length≤100000000)(hbase:B≤w.heap.size):
  ∃v' w1,(Builtin.append_ #[122,122] 122 #[v,.slice (some ⟨w.heap.size,0,none⟩) 1 1]).run Tryz.prog (w.alloc (.cells #[.int .i32 x] 21))= .ok v' w1∧OwnR w1 B v' (m++[x])∧Below B w w1:=by
 obtain⟨v',w1,h1,h2,_,h3⟩:=kt.app1 (P:=Tryz.prog) (t:=122) (ty:=122) Tryz.underlying122 infoRune rfl (.int .i32 x) rfl hown (by rw[rcells_length];unfold maxLen;omega) (by rw[rcells_length];omega) hbase;refine⟨v',w1,h1,?_,h3⟩;unfold OwnR;rw[rcells_append];exact h2
def RunesE (o:Option (List Int))(w:World)(e:Ending)(w':World):Prop:=
 Below w.heap.size w w'∧match o with
  | none=>e= .returned (.tuple #[.slice none 0 0,.int .i64 19])
  | some m=> ∃v,e= .returned (.tuple #[v,.int .i64 0])∧OwnR w' w.heap.size v m
theorem drop_ne {s:ByteArray}{i:Nat}(hi:i<s.size):s.data.toList.drop i≠[]:=by intro e;have:=congrArg List.length e;rw[drop_len]at this;simp at this;omega
theorem runes_on {s:ByteArray}{i:Nat}{m:List Int}(hi:i<s.size)(h:runes s.data.toList=(runes (s.data.toList.drop i)).map (m++ ·))(h1:(oneL (s.data.toList.drop i)).2≠0):
  runes s.data.toList=(runes (s.data.toList.drop (i+(oneL (s.data.toList.drop i)).2))).map ((m++[((oneL (s.data.toList.drop i)).1:Int)])++ ·):=by
 rw[runes_step _ (drop_ne hi),if_neg h1,List.drop_drop]at h;rw[h,Option.map_map];congr 1;funext x;simp
theorem runes_off {s:ByteArray}{i:Nat}{m:List Int}(hi:i<s.size)(h:runes s.data.toList=(runes (s.data.toList.drop i)).map (m++ ·))(h1:(oneL (s.data.toList.drop i)).2=0):runes s.data.toList=none:=by rw[runes_step _ (drop_ne hi),if_pos h1]at h;exact h
theorem runes_end {s:ByteArray}{m:List Int}(h:runes s.data.toList=(runes (s.data.toList.drop s.size)).map (m++ ·)):runes s.data.toList=some m:=by rw[List.drop_of_length_le (by simp),runes_nil]at h;simpa using h
theorem one_le {s:ByteArray}{i:Nat}(hi:i<s.size):i+(oneL (s.data.toList.drop i)).2≤s.size:=by have:=one_width _ (drop_ne hi);rw[drop_len]at this;omega
theorem rrunes_any (s:ByteArray)(w:World)(hs:s.size≤1100000):Calls Tryz.prog 150 #[.string s] w fun e w'=>RunesE (runes s.data.toList) w e w':=by
 go_enter Tryz.func150,Tryz.ntmps150;go_wp2_with fail;go_loopw [4,5] (fun lv iv wr=> ∃ (i:Nat) (m:List Int),i≤s.size∧iv= .int .i64 (i:Int)∧Hid (OwnR wr w.heap.size lv m)∧m.length≤i∧Hid (runes s.data.toList=(runes (s.data.toList.drop i)).map (m++ ·))∧Below w.heap.size w wr) (fun _ iv _=>s.size- (intOf iv).toNat);case atStart=>
  refine⟨0,[],Nat.zero_le _,rfl,?_,by simp,by show _=_;simp,?_⟩
  ·exact World.ownsRow_made _ #[] 0 (by simp) (by unfold maxLen;omega) rfl
  ·exact(Below.refl _ _).alloc (Nat.le_refl _) _
 case round=>
  obtain⟨i,m,hi,rfl,hO,hm,hR,hB⟩:=hrel;have hsz:=hB.size;by_cases hlt:i<s.size
  ·have hlt':(i:Int)<(s.size:Int):=(by omega);have ho:=one_any s i wr hlt hs;have h1:=one_le hlt;unfold oneV at ho;by_cases hz:(oneL (s.data.toList.drop i)).2=0
   ·have HN:Hid (runes s.data.toList=none):=runes_off hlt hR.out hz;rw[hz]at ho;generalize((oneL (s.data.toList.drop i)).1:Int)=r at ho;have HO:=Lib.hid ho;clear ho hz h1;go_wp2_with fail;refine HO.out.mono ?_;rintro e w1 ⟨rfl,rfl⟩;go_wp2_with fail;go_ret2;refine⟨hB,?_⟩;rw[HN.out];rfl
   ·have HN:=Lib.hid (runes_on hlt hR.out hz);have hn0:1≤(oneL (s.data.toList.drop i)).2:=(by omega);have hok:=one_ok _ hz;generalize hrr:((oneL (s.data.toList.drop i)).1:Int)=r at ho HN hok;generalize hnn:(oneL (s.data.toList.drop i)).2=n at ho HN h1 hn0;have HO:=Lib.hid ho;obtain⟨hr0,hr1,_⟩:=hok;have hnz:((n:Int)==0)=false:=(by rw[beq_eq_false_iff_ne];omega);obtain⟨v',w1,hap,hO1,hB1⟩:=ownR_app r hO.out (by omega) hsz;have HO1:=Lib.hid hO1;have HB1:=Lib.hid hB1;have hn1:(n:Int)≤1100000:=(by omega);have hin:i+n≤s.size:=h1;clear ho hz hnn hrr hO1 hB1 h1;go_wp2_with fail;refine HO.out.mono ?_;rintro e w1 ⟨rfl,rfl⟩;go_wp2_with (at_builtin;refine Lib.wpList_append_run _ rfl _ _ _ _ rfl _ _ rfl rfl _ _ hap ?_);go_roundw;case rel=>exact⟨i+n,m++[r],hin,by go_num,HO1,by simp;omega,HN,hB.trans HB1.out⟩
    case measure=>simp[intOf];omega
  ·obtain rfl:i=s.size:=(by omega);have HN:Hid (runes s.data.toList=some m):=runes_end hR.out;go_wp2_with fail;go_ret2;refine⟨hB,?_⟩;rw[HN.out];exact⟨_,rfl,hO.out⟩
theorem runes_any (s:ByteArray)(w:World)(hs:s.size≤1100000):Calls Tryz.prog 253 #[.string s] w fun e w'=>RunesE (runes s.data.toList) w e w':=by
 go_enter Tryz.func253,Tryz.ntmps253;go_wp2_with fail;go_loopw [4] (fun lv wr=> ∃ (i:Nat) (m:List Int),i≤s.size∧wr.heap[w.heap.size]? =some (.stringIter s i)∧Hid (OwnR wr (w.heap.size+1) lv m)∧m.length≤i∧Hid (runes s.data.toList=(runes (s.data.toList.drop i)).map (m++ ·))∧Below w.heap.size w wr) (fun _ wr=>s.size-wr.iterPos w.heap.size);case atStart=>
  refine⟨0,[],Nat.zero_le _,?_,?_,by simp,by show _=_;simp,?_⟩
  ·exact World.iter_heap w s 0
  ·exact ownR_nil _ _
  ·exact(Below.refl _ _).alloc (Nat.le_refl _) _
 case round=>
  obtain⟨i,m,hi,hit,hO,hm,hR,hB⟩:=hrel;have hsz:w.heap.size<wr.heap.size:=(Array.getElem?_eq_some_iff.1 hit).1;by_cases hlt:i<s.size
  ·have h1:=one_le hlt;by_cases hz:(oneL (s.data.toList.drop i)).2=0
   ·have HN:Hid (runes s.data.toList=none):=runes_off hlt hR.out hz;obtain⟨hdec,hno⟩:=decode_no s i hlt hz;have hnx: ∀ty,(Instr.next (.pointer (some ⟨w.heap.size,0,none⟩)) true ty).run Tryz.prog wr=_:=fun ty=>Lib.run_next_any_at wr w.heap.size s i ty hit hlt;rw[hdec]at hnx;have hB2:=Lib.below_iterAt hB (Nat.le_refl _) s (i+1);have hp:Lib.hasPrefix (s.extract i s.size).data.toList [239,191,189]=false:=(by unfold Lib.hasPrefix;rw[Bool.eq_false_iff];intro e;rw[List.isPrefixOf_iff_prefix,Lib.extract_to_end]at e;exact hno ((fffd_prefix _).2 e));have CP:=Tryz.strings_HasPrefix (s.extract i s.size) ⟨#[239,191,189]⟩ (wr.iterAt w.heap.size s (i+1));rw[show(⟨#[239,191,189]⟩:ByteArray).data.toList=[239,191,189]from rfl,hp]at CP;have HP:=Lib.hid CP;clear CP hp hdec hno hz h1;go_wp2_with fail;refine HP.out.mono ?_;rintro e w1 ⟨rfl,rfl⟩;go_wp2_with fail;go_ret2;refine⟨hB2,?_⟩;rw[HN.out];rfl
   ·have HN:=Lib.hid (runes_on hlt hR.out hz);have hn0:1≤(oneL (s.data.toList.drop i)).2:=(by omega);have hdec:=decode_yes s i hlt hz;have hff:=fffd_yes _ hz;have hnx: ∀ty,(Instr.next (.pointer (some ⟨w.heap.size,0,none⟩)) true ty).run Tryz.prog wr=_:=fun ty=>Lib.run_next_any_at wr w.heap.size s i ty hit hlt;rw[hdec]at hnx;have hff2:((oneL (s.data.toList.drop i)).1:Int)=65533→fffd (s.data.toList.drop i):=fun e=>hff (by omega);clear hff;generalize hrr:((oneL (s.data.toList.drop i)).1:Int)=rn at HN hnx hff2;generalize hnn:(oneL (s.data.toList.drop i)).2=n at HN h1 hn0 hnx;have hB2:=Lib.hid (Lib.below_iterAt hB (Nat.le_refl _) s (i+n));have hit2:=Lib.hid (Lib.iterAt_heap wr w.heap.size s i (i+n) hit);have hsz2:w.heap.size+1≤(wr.iterAt w.heap.size s (i+n)).heap.size:=(by rw[Lib.iterAt_size];exact hsz);have hO2:OwnR (wr.iterAt w.heap.size s (i+n)) (w.heap.size+1) _ m:=row_iter hO.out hit;obtain⟨v',w1,hap,hO1,hB1⟩:=ownR_app rn hO2 (by omega) hsz2;have hit3:w1.heap[w.heap.size]? =some (.stringIter s (i+n)):=(hB1.block _ (by omega)).trans hit2.out;have hms:Hid (s.size-w1.iterPos w.heap.size<s.size-wr.iterPos w.heap.size):=(by show _<_;simp only[World.iterPos,hit3,hit];omega);have HIT3:=Lib.hid hit3;have HO1:=Lib.hid hO1;have HB1:=Lib.hid (hB2.out.trans (hB1.mono (by omega)));have hin:i+n≤s.size:=h1;clear hdec hz hnn hO1 hB1 h1 hO2 hit3;by_cases h65:rn=65533
    ·have hpx:=(fffd_prefix _).1 (hff2 h65);have hp:Lib.hasPrefix (s.extract i s.size).data.toList [239,191,189]=true:=(by unfold Lib.hasPrefix;rw[List.isPrefixOf_iff_prefix,Lib.extract_to_end];exact hpx);have CP:=Tryz.strings_HasPrefix (s.extract i s.size) ⟨#[239,191,189]⟩ (wr.iterAt w.heap.size s (i+n));rw[show(⟨#[239,191,189]⟩:ByteArray).data.toList=[239,191,189]from rfl,hp]at CP;have HP:=Lib.hid CP;clear CP hp hpx hff2 hrr;subst h65;go_wp2_with fail;refine HP.out.mono ?_;rintro e w1 ⟨rfl,rfl⟩;go_wp2_with (at_builtin;refine Lib.wpList_append_run _ rfl _ _ _ _ rfl _ _ rfl rfl _ _ hap ?_);go_roundw;case rel=>exact⟨i+n,m++[65533],hin,HIT3.out,HO1,by simp;omega,HN,HB1.out⟩
     case measure=>exact hms.out
    ·have h65':(rn==65533)=false:=(by rw[beq_eq_false_iff_ne];omega);clear hff2 hrr h65;go_wp2_with (at_builtin;refine Lib.wpList_append_run _ rfl _ _ _ _ rfl _ _ rfl rfl _ _ hap ?_);go_roundw;case rel=>exact⟨i+n,m++[rn],hin,HIT3.out,HO1,by simp;omega,HN,HB1.out⟩
     case measure=>exact hms.out
  ·obtain rfl:i=s.size:=(by omega);have HN:Hid (runes s.data.toList=some m):=runes_end hR.out;have hnx: ∀ty,(Instr.next (.pointer (some ⟨w.heap.size,0,none⟩)) true ty).run Tryz.prog wr=_:=fun ty=>Lib.run_next_end_at wr w.heap.size s s.size ty hit hlt;go_wp2_with fail;go_ret2;refine⟨hB,?_⟩;rw[HN.out];exact⟨_,rfl,ownR_mono hO.out (by omega)⟩
end prw
open Go.RowKit
namespace bld
theorem writeRune_any (B b:Nat)(l:List UInt8)(r:Int)(w:World)(h:Is B b l w)(hr0:0≤r)(hr1:r≤1114111)(hlen:l.length≤1000000000)(hBw:B≤w.heap.size):
  Calls Tryz.prog 257 #[.pointer (some ⟨b,0,none⟩),.int .i32 r] w fun e w'=> ∃v,e= .returned v∧(Is B b (l++run.enc r) w'∧Below B w w'):=by
 have hbc:(Lib.byteCells l).length=l.length:=Lib.byteCells_length l;have hbc':Lib.byteCells (l++run.enc r)=Lib.byteCells l++Lib.runeCells r:=by rw[Lib.byteCells_append];unfold run.enc;rw[Lib.byteCells_encodeRune]
 unfold Is;rw[hbc'];have h0:Lib.IsBuilder 133 5 B b (Lib.byteCells l) w:=h;clear h hbc';generalize Lib.byteCells l=bs at h0 hbc ⊢;have C:=Lib.hid (copyCheck_any B b bs w h0);clear h0;go_enter Tryz.func257,Tryz.ntmps257;go_wp2_with fail;refine C.out.mono ?_;rintro e w1 ⟨rfl,h1,hb1⟩;obtain⟨hB,v,hbk,hown,hne⟩:=h1;have hsz:=hb1.size;have c0:w1.cell? ⟨b,0,none⟩=some (.pointer (some ⟨b,0,none⟩)):=by rw[Lib.cell_of_heap hbk];rfl
 have c1:w1.cell? ⟨b,1,none⟩=some v:=by rw[Lib.cell_of_heap hbk];rfl
 have hlt:=lt_of_heap hbk;have HOWN:=Lib.hid hown;have HBK:=Lib.hid hbk;have HNE:=Lib.hid hne;have HBC:=Lib.hid hbc;obtain⟨ao,n,cap,hv,hn⟩:=kt.row_form hown;have CA:=Lib.hid (Tryz.utf8_AppendRune_plain B v bs.length bs r (by omega) (by omega) w1 hown (by rw[hbc];omega) (by omega));clear hown hbk hne hbc C;subst hv;go_wp2_with fail;refine CA.out.mono ?_;rintro e w2 ⟨v',rfl,hown',o,hgr⟩;have hgr2:Below B w1 w2:=((Below.refl B w1).alloc (by omega) o).trans ((Below.refl B _).grown hgr (by simp;omega) (fun k hk=>(HOWN.out.lt k hk).1));have hbk2:w2.heap[b]? =some (.cells #[.pointer (some ⟨b,0,none⟩),.slice ao n cap] 133 (0,0)):=by rw[hgr.block b (by simp;omega) (fun e=>HNE.out e.symm),Below.heap_alloc _ _ _ hlt];exact HBK.out
 have d1:w2.cell? ⟨b,1,none⟩=some (.slice ao n cap):=by rw[Lib.cell_of_heap hbk2];rfl
 have f1:w2.frozen? ⟨b,1,none⟩=false:=Lib.frozen_of_heap hbk2 1;have hown2:w2.ownsRow B 5 1 v' (bs++Lib.runeCells r).length (bs++Lib.runeCells r):=by rw[List.length_append];exact hown'
 obtain⟨ao',n',cap',rfl,hn'⟩:=kt.row_form hown2;have H1:=Lib.hid hown2;have HB:=Lib.hid hbk2;have HGR:=Lib.hid hgr2;clear hown' hbk2 hgr hown2 CA HNE HBK hgr2;go_wp2_with fail;go_ret2;exact⟨_,rfl,Or.inr (Lib.BuilderAt.put hB HB.out H1.out (by decide)),(hb1.trans HGR.out).setCell (p:=⟨b,1,none⟩) hB _⟩
end bld
open Go.RowKit
namespace prw
open run prp
theorem infoByte:(Tryz.prog.info? 5).map (fun i=>(i.zero,i.size,i.bytes))=some (some (.int .u8 0),1,1):=by kernel_rfl
def BytesE (l:List UInt8)(w:World)(e:Ending)(w':World):Prop:=∃g cap:Nat,e= .returned (.slice (some ⟨g,0,none⟩) l.length cap)∧(∀j u,(Lib.byteCells l)[j]? =some u→w'.cell? ⟨g,j,none⟩=some u)∧Below w.heap.size w w'
theorem bytesE_lit (w:World)(l:List UInt8)(zs:List Int)(h:l=zs.map fun x=>x.toNat.toUInt8)(hz: ∀x∈zs,0≤x∧x<256):
  BytesE l w (.returned (.slice (some ⟨w.heap.size,0,none⟩) zs.length zs.length)) (w.alloc (.cells (zs.map (Value.int .u8 ·)).toArray 5)):=by
 refine⟨w.heap.size,zs.length,by rw[h];simp,?_,(Below.refl _ _).alloc (Nat.le_refl _) _⟩;intro j u hj;have e1:Lib.byteCells l=zs.map (Value.int .u8 ·):=by rw[h];unfold Lib.byteCells;rw[List.map_map];apply List.map_congr_left;intro x hx;obtain⟨h0,h1⟩:=hz x hx;simp only[Function.comp,Value.int.injEq,true_and];rw[u8z x h0 h1];omega
 rw[e1]at hj;rw[World.cell?_alloc_new];simpa using hj
theorem bytes_any (r:Int)(w:World)(hr:Hid (okR r)):Calls Tryz.prog 154 #[.int .i32 r] w fun e w'=>BytesE (enc r) w e w':=by
 have r0:0≤r:=hr.out.1;have r1:r≤1114111:=hr.out.2.1;by_cases a1:r<128
 ·have E:=Lib.hid (enc_one r0 (by omega));go_enter Tryz.func154,Tryz.ntmps154;go_wp2_with fail;go_ret;exact bytesE_lit w _ [r] E.out (by intro x hx;simp at hx;omega)
 ·by_cases a2:r<2048
  ·have E:=Lib.hid (enc_two (v:=r) (by omega) (by omega));go_enter Tryz.func154,Tryz.ntmps154;go_wp2_with fail;go_ret;exact bytesE_lit w _ [192+r / 64,128+r % 64] E.out (by intro x hx;simp at hx;omega)
  ·by_cases a3:r<65536
   ·have E:=Lib.hid (enc_three (v:=r) (by have:=hr.out.2.2;omega));go_enter Tryz.func154,Tryz.ntmps154;go_wp2_with fail;go_ret;exact bytesE_lit w _ [224+r / 4096,128+r / 64 % 64,128+r % 64] E.out (by intro x hx;simp at hx;omega)
   ·have E:=Lib.hid (enc_four (v:=r) (by omega) (by omega));go_enter Tryz.func154,Tryz.ntmps154;go_wp2_with fail;go_ret;exact bytesE_lit w _ [240+r / 262144,128+r / 4096 % 64,128+r / 64 % 64,128+r % 64] E.out (by intro x hx;simp at hx;omega)
def Runs (w:World)(ao:Option Addr)(m:List Int):Prop:= ∀i (hi:i<m.length),∃b o,ao=some ⟨b,o,none⟩∧w.cell? ⟨b,o+i,none⟩=some (.int .i32 m[i])
theorem runs_below {w w':World}{ao:Option Addr}{m:List Int}(h:Runs w ao m)(hb:Below w.heap.size w w'):Runs w' ao m:=by intro i hi;obtain⟨b,o,h1,h2⟩:=h i hi;exact⟨b,o,h1,(hb.cell (World.block_lt_of_cell? w _ h2)).trans h2⟩
theorem runs_of {w:World}{B:Nat}{v:Value}{m:List Int}(h:OwnR w B v m): ∃ (ao:Option Addr) (cap:Nat),v= .slice ao m.length cap∧Runs w ao m:=by
 obtain⟨ao,cap,rfl⟩:=ownR_form h;refine⟨ao,cap,rfl,?_⟩;intro i hi;have h':w.ownsRow B 21 1 (.slice ao m.length cap) m.length (rcells m):=by have:=h;unfold OwnR at this;rw[rcells_length]at this;exact this
 obtain⟨g,rfl,hc,_⟩:=kt.row_some h' (by omega);refine⟨g,0,rfl,?_⟩;rw[Nat.zero_add];exact hc i _ (by simp[rcells,hi])
theorem text_take (m:List Int)(i:Nat)(hi:i<m.length):text (m.take (i+1))=text (m.take i)++enc m[i]:=by rw[List.take_succ_eq_append_getElem hi,text_append];simp[text]
theorem text_len4: ∀m:List Int,(text m).length≤4*m.length
 | []=>by simp[text]
 | v::m=>by have h1:=enc_len v;have h2:=text_len4 m;rw[text_cons,List.length_append,List.length_cons];omega
theorem text_any (ao:Option Addr)(cap:Nat)(m:List Int)(w:World)(hm:m.length≤1100000)(hS:Hid (Runs w ao m))(hok:Hid (∀v∈m,okR v)):
  Calls Tryz.prog 93 #[.slice ao m.length cap] w fun e w'=>e= .returned (.string ⟨(text m).toArray⟩)∧Below w.heap.size w w':=by
 go_enter Tryz.func93,Tryz.ntmps93;go_wp2_with fail;go_loopw [3,4] (fun bv iv wr=> ∃ (i:Nat),i≤m.length∧iv= .int .i64 (i:Int)∧Hid (wr.ownsRow w.heap.size 5 1 bv (Lib.byteCells (text (m.take i))).length (Lib.byteCells (text (m.take i))))∧Below w.heap.size w wr) (fun _ iv _=>m.length- (intOf iv).toNat);case atStart=>
  refine⟨0,Nat.zero_le _,rfl,?_,(Below.refl _ _).alloc (Nat.le_refl _) _⟩;exact World.ownsRow_made _ #[] 0 (by simp) (by unfold maxLen;omega) rfl
 case round=>
  obtain⟨i,hi,rfl,hO,hB⟩:=hrel;have hsz:=hB.size;by_cases hlt:i<m.length
  ·have hlt':(i:Int)<(m.length:Int):=(by omega);obtain⟨b,o,hao,hc⟩:=runs_below hS.out hB i hlt;subst hao;have hT:=text_take m i hlt;have h4:=text_len4 (m.take i);have h5:=enc_len m[i];rw[List.length_take]at h4;have hokm:=hok.out m[i] (by simp);generalize m[i]=x at hc hT h5 hokm;have HX:=Lib.hid hokm;have CB:=Lib.hid (bytes_any x wr HX);have HT:=Lib.hid hT;have H4:=Lib.hid h4;have H5:=Lib.hid h5;clear hT h4 hokm h5;go_wp2_with fail;refine CB.out.mono ?_;rintro e w1 ⟨g,cp,rfl,hg,hB1⟩;have hO1:=kt.row_below hO.out hB1;have h6:=Lib.byteCells_length (text (m.take i));obtain⟨v',w2,hap,hO2,hg2,hB2⟩:=kt.appN (P:=Tryz.prog) (t:=131) (ty:=131) Tryz.underlying131 infoByte rfl ⟨g,0,none⟩ (enc x).length cp (Lib.byteCells (enc x)) (Lib.byteCells_length _) (fun j u hj=>by rw[kt.addr_add];exact hg j u hj) (by intro u hu;unfold Lib.byteCells at hu;obtain⟨y,_,rfl⟩:=List.mem_map.1 hu;rfl) hO1 (by have:=H4.out;have:=H5.out;rw[h6];unfold maxLen;omega) (by have:=H4.out;have:=H5.out;rw[h6];omega) (Nat.le_trans hsz hB1.size);have HO2:Hid (w2.ownsRow w.heap.size 5 1 v' (Lib.byteCells (text (m.take (i+1)))).length (Lib.byteCells (text (m.take (i+1))))):=(by show World.ownsRow _ _ _ _ _ _ _;rw[HT.out,Lib.byteCells_append];exact hO2);have HB2:Hid (Below w.heap.size w w2):=(hB.trans (hB1.mono hsz)).trans hB2;clear hO1 hO2 hg hg2 hB1 hB2 h6;go_wp2_with (at_builtin;refine Lib.wpList_append_run _ rfl _ _ _ _ rfl _ _ rfl rfl _ _ hap ?_);go_roundw;case rel=>exact⟨i+1,by omega,by go_num,HO2,HB2.out⟩
   case measure=>simp[intOf];omega
  ·obtain rfl:i=m.length:=(by omega);have hst:=kt.str_of_row (P:=Tryz.prog) (dst:=9) Tryz.underlying131 Tryz.underlying5 Tryz.underlying9 hO.out;rw[List.take_length]at hst;go_wp2_with fail;go_ret;exact⟨rfl,hB⟩
end prw
open Go.RowKit
namespace prw
open run prp
def MappedE (o:Option (List Int))(w:World)(e:Ending)(w':World):Prop:=
 Below w.heap.size w w'∧match o with
  | none=> ∃v,e= .returned (.tuple #[v,.int .i64 19])
  | some m=> ∃v,e= .returned (.tuple #[v,.int .i64 0])∧OwnR w' w.heap.size v m
theorem mapped_take_drop {fold:Bool}{m:List Int}{i:Nat}(hi:i<m.length)(h:dropB m[i]=true):mapped fold (m.take (i+1))=mapped fold (m.take i):=by rw[List.take_succ_eq_append_getElem hi,mapped_append];simp[mapped,h]
theorem mapped_take_keep {fold:Bool}{m:List Int}{i:Nat}(hi:i<m.length)(h:dropB m[i]=false):mapped fold (m.take (i+1))=mapped fold (m.take i)++[mapR fold m[i]]:=by rw[List.take_succ_eq_append_getElem hi,mapped_append];simp[mapped,h]
theorem mapped_take_len (fold:Bool)(m:List Int)(i:Nat):(mapped fold (m.take i)).length≤i:=by unfold mapped;rw[List.length_map];refine Nat.le_trans (List.length_filter_le _ _) ?_;rw[List.length_take];omega
theorem mapR_blank {fold:Bool}{r:Int}(h:blankB r=true):mapR fold r=32:=by unfold mapR;rw[if_pos h]
theorem mapR_small {r:Int}(h:blankB r=false):mapR true r=smallI r:=by unfold mapR;rw[if_neg (by rw[h];simp),if_pos rfl]
theorem mapR_same {r:Int}(h:blankB r=false):mapR false r=r:=by unfold mapR;rw[if_neg (by rw[h];simp),if_neg (by simp)]
def mapO' (l:List UInt8)(fold:Bool):Option (List Int):=(runes l).map (mapped fold)
theorem mapped_any (s:ByteArray)(fold:Bool)(w:World)(hs:s.size≤1100000):Calls Tryz.prog 92 #[.string s,.bool fold] w fun e w'=>MappedE (mapO' s.data.toList fold) w e w':=by
 have CR:=rrunes_any s w hs;have HM:Hid (mapO' s.data.toList fold=(runes s.data.toList).map (mapped fold)):=rfl;cases hrs:runes s.data.toList with
 | none=>rw[hrs]at CR HM;have CH:=Lib.hid CR;clear hrs CR;go_enter Tryz.func92,Tryz.ntmps92;go_wp2_with fail;refine CH.out.mono ?_;rintro e w1 ⟨hB1,rfl⟩;go_wp2_with fail;refine wp_loop_rounds 1 ?_;rw[rounds_succ];go_wp2_with fail;go_ret2;refine⟨hB1.alloc hB1.size _,?_⟩;rw[HM.out];exact⟨_,rfl⟩
 | some m=>
  rw[hrs]at CR HM;have hml:=runes_len hrs;have hok:=(runes_text _ _ m (Nat.le_refl _) hrs).2;have CH:=Lib.hid CR;have HK:=Lib.hid hok;have hml2:m.length≤1100000:=by rw[kt.size_len]at hml;omega
  clear hrs CR hok hml;go_enter Tryz.func92,Tryz.ntmps92;go_wp2_with fail;refine CH.out.mono ?_;rintro e w1 ⟨hB1,v,rfl,hO⟩;obtain⟨ao,cap,rfl,hS⟩:=runs_of hO;have HS:=Lib.hid hS;clear hO hS;have hsz1:=hB1.size;go_wp2_with fail;go_loopw [8,9,10] (fun lv iv xv wr=> ∃ (i:Nat),i≤m.length∧iv= .int .i64 (i:Int)∧Hid (OwnR wr w1.heap.size lv (mapped fold (m.take i)))∧Below w1.heap.size w1 wr) (fun _ iv _ _=>m.length- (intOf iv).toNat);case atStart=>
   refine⟨0,Nat.zero_le _,rfl,?_,(Below.refl _ _).alloc (Nat.le_refl _) _⟩;exact World.ownsRow_made _ #[] 0 (by simp) (by unfold maxLen;omega) rfl
  case round=>
   obtain⟨i,hi,rfl,hO,hB⟩:=hrel;have hsz:=hB.size;by_cases hlt:i<m.length
   ·have hlt':(i:Int)<(m.length:Int):=(by omega);obtain⟨b,o,hao,hc⟩:=runs_below HS.out hB i hlt;subst hao;have hx:=HK.out m[i] (by simp);have h1:=mapped_take_drop (fold:=fold) hlt;have h2:=mapped_take_keep (fold:=fold) hlt;have h3:Hid ((mapped fold (m.take i)).length≤1100000):=(by show _≤_;have:=mapped_take_len fold m i;omega);generalize m[i]=x at hc hx h1 h2;obtain⟨x0,x1,_⟩:=hx;have CD:=Lib.hid (rdropped_any x);by_cases hd:dropB x=true
    ·have hO1:=hO.out;rw[←h1 hd]at hO1;have HO1:=Lib.hid hO1;rw[hd]at CD;clear h1 h2 hd hO1;go_wp2_with fail;refine(CD.out wr).mono ?_;rintro e w2 ⟨rfl,rfl⟩;go_wp2_with fail;go_roundw;case rel=>exact⟨i+1,by omega,by go_num,HO1,hB⟩
     case measure=>simp[intOf];omega
    ·have hd':dropB x=false:=(by simpa using hd);rw[hd']at CD;have h2':=h2 hd';clear h1 h2 hd hd';have CB:=Lib.hid (rblank_any x);by_cases hb:blankB x=true
     ·rw[hb]at CB;rw[mapR_blank hb]at h2';obtain⟨v',w2,hap,hO1,hB2⟩:=ownR_app 32 hO.out (by have:=h3.out;omega) hsz;rw[←h2']at hO1;have HO1:=Lib.hid hO1;clear h2' hO1 hb;go_wp2_with fail;refine(CD.out wr).mono ?_;rintro e w2 ⟨rfl,rfl⟩;go_wp2_with fail;refine(CB.out wr).mono ?_;rintro e w2 ⟨rfl,rfl⟩;go_wp2_with (at_builtin;refine Lib.wpList_append_run _ rfl _ _ _ _ rfl _ _ rfl rfl _ _ hap ?_);go_roundw;case rel=>exact⟨i+1,by omega,by go_num,HO1,hB.trans hB2⟩
      case measure=>simp[intOf];omega
     ·have hb':blankB x=false:=(by simpa using hb);rw[hb']at CB;clear hb;cases fold with
      | true=>
       rw[mapR_small hb']at h2';have CS:=Lib.hid (fun w=>rsmall_any x w x0 x1);generalize smallI x=y at CS h2';obtain⟨v',w2,hap,hO1,hB2⟩:=ownR_app y hO.out (by have:=h3.out;omega) hsz;rw[←h2']at hO1;have HO1:=Lib.hid hO1;clear h2' hO1 hb';go_wp2_with fail;refine(CD.out wr).mono ?_;rintro e w2 ⟨rfl,rfl⟩;go_wp2_with fail;refine(CB.out wr).mono ?_;rintro e w2 ⟨rfl,rfl⟩;go_wp2_with fail;refine(CS.out wr).mono ?_;rintro e w2 ⟨rfl,rfl⟩;go_wp2_with (at_builtin;refine Lib.wpList_append_run _ rfl _ _ _ _ rfl _ _ rfl rfl _ _ hap ?_);go_roundw;case rel=>exact⟨i+1,by omega,by go_num,HO1,hB.trans hB2⟩
       case measure=>simp[intOf];omega
      | false=>
       rw[mapR_same hb']at h2';obtain⟨v',w2,hap,hO1,hB2⟩:=ownR_app x hO.out (by have:=h3.out;omega) hsz;rw[←h2']at hO1;have HO1:=Lib.hid hO1;clear h2' hO1 hb';go_wp2_with fail;refine(CD.out wr).mono ?_;rintro e w2 ⟨rfl,rfl⟩;go_wp2_with fail;refine(CB.out wr).mono ?_;rintro e w2 ⟨rfl,rfl⟩;go_wp2_with (at_builtin;refine Lib.wpList_append_run _ rfl _ _ _ _ rfl _ _ rfl rfl _ _ hap ?_);go_roundw;case rel=>exact⟨i+1,by omega,by go_num,HO1,hB.trans hB2⟩
       case measure=>simp[intOf];omega
   ·obtain rfl:i=m.length:=(by omega);have hO':=hO.out;rw[List.take_length]at hO';have HO1:=Lib.hid hO';clear hO';go_wp2_with fail;go_ret2;refine⟨hB1.trans (hB.mono hsz1),?_⟩;rw[HM.out];exact⟨_,rfl,ownR_mono HO1.out hsz1⟩
end prw
open Go.RowKit
namespace prw
open run prp
def pairV:Option (List UInt8)→Value
 | none=> .tuple #[.string ⟨#[]⟩,.int .i64 19]
 | some t=> .tuple #[.string ⟨t.toArray⟩,.int .i64 0]
theorem mapO_eq (l:List UInt8)(fold:Bool):mapO l fold=(mapO' l fold).map text:=by unfold mapO mapO';rw[Option.map_map];rfl
theorem readyO_eq (l:List UInt8)(fold:Bool):readyO l fold=(mapO' l fold).map fun m=>text (sq 32 false m):=by unfold readyO mapO' readyR;rw[Option.map_map];rfl
theorem phoneO_eq (l:List UInt8):phoneO l=(mapO' l true).map fun m=>text (m.filter fun v=>decide (v≠32)&&decide (v≠45)):=by unfold phoneO mapO' phoneR;rw[Option.map_map];rfl
theorem mapO'_facts {s:ByteArray}{fold:Bool}{m:List Int}(h:mapO' s.data.toList fold=some m):m.length≤s.size∧ ∀v∈m,okR v:=by unfold mapO' at h;obtain⟨k,hk,rfl⟩:=Option.map_eq_some_iff.1 h;have h1:=runes_len hk;rw[kt.size_len]at h1;refine⟨?_,mapped_ok (runes_text _ _ k (Nat.le_refl _) hk).2⟩;unfold mapped;rw[List.length_map];exact Nat.le_trans (List.length_filter_le _ _) h1
theorem sq_drop_ne {m acc:List Int}{i:Nat}(hi:i<m.length)(h:sq 32 false m=acc++sq 32 (!acc.isEmpty) (m.drop i))(hx:m[i]≠32):sq 32 false m=(acc++[m[i]])++sq 32 (!(acc++[m[i]]).isEmpty) (m.drop (i+1)):=by
 rw[List.drop_eq_getElem_cons hi,sq_ne _ _ _ _ hx]at h;rw[h];have:(!(acc++[m[i]]).isEmpty)=true:=by simp
 rw[this];simp
theorem sq_drop_on {m acc:List Int}{i:Nat}(hi:i<m.length)(h:sq 32 false m=acc++sq 32 (!acc.isEmpty) (m.drop i))(hx:m[i]=32)(ha:0<acc.length)(hi2:i+1<m.length)(hy:m[i+1]≠32):sq 32 false m=(acc++[m[i]])++sq 32 (!(acc++[m[i]]).isEmpty) (m.drop (i+1)):=by
 have hst:(!acc.isEmpty)=true:=by cases acc with
  | nil=>simp at ha
  | cons=>rfl
 have hh:headNe 32 (m.drop (i+1))=true:=by rw[List.drop_eq_getElem_cons hi2];simpa[headNe]using hy
 rw[List.drop_eq_getElem_cons hi,hx,hst,sq_on _ _ hh]at h;rw[h];have:(!(acc++[m[i]]).isEmpty)=true:=by simp
 rw[this,hx];simp
theorem sq_drop_off {m acc:List Int}{i:Nat}(hi:i<m.length)(h:sq 32 false m=acc++sq 32 (!acc.isEmpty) (m.drop i))(hx:m[i]=32)(hn:acc.length=0∨m.length≤i+1∨ ∃hi2:i+1<m.length,m[i+1]=32):sq 32 false m=acc++sq 32 (!acc.isEmpty) (m.drop (i+1)):=by
 rw[List.drop_eq_getElem_cons hi,hx,sq_off]at h
 ·exact h
 ·rintro⟨h1,h2⟩;rcases hn with hn | hn | ⟨hi2,hn⟩
  ·cases acc with
   | nil=>simp at h1
   | cons=>simp at hn
  ·rw[List.drop_of_length_le (by omega)]at h2;simp[headNe]at h2
  ·rw[List.drop_eq_getElem_cons hi2]at h2;simp[headNe,hn]at h2
theorem sq_drop_end {m acc:List Int}(h:sq 32 false m=acc++sq 32 (!acc.isEmpty) (m.drop m.length)):sq 32 false m=acc:=by rw[List.drop_length]at h;simpa[sq]using h
theorem rready_any (s:ByteArray)(fold:Bool)(w:World)(hs:s.size≤1100000):Calls Tryz.prog 32 #[.string s,.bool fold] w fun e w'=>e= .returned (pairV (readyO s.data.toList fold))∧Below w.heap.size w w':=by
 rw[readyO_eq];have CR:=mapped_any s fold w hs;cases hrs:mapO' s.data.toList fold with
 | none=>rw[hrs]at CR;have CH:=Lib.hid CR;clear hrs CR;go_enter Tryz.func32,Tryz.ntmps32;go_wp2_with fail;refine CH.out.mono ?_;rintro e w1 ⟨hB1,v,rfl⟩;go_wp2_with fail;go_ret2;exact⟨rfl,hB1⟩
 | some m=>
  rw[hrs]at CR;obtain⟨hml,hok⟩:=mapO'_facts hrs;have CH:=Lib.hid CR;have HK:Hid (∀v∈sq 32 false m,okR v):=fun v hv=>hok v (sq_mem _ _ _ v hv);have hml2:m.length≤1100000:=by omega
  clear hrs CR hok hml;go_enter Tryz.func32,Tryz.ntmps32;go_wp2_with fail;refine CH.out.mono ?_;rintro e w1 ⟨hB1,v,rfl,hO⟩;obtain⟨ao,cap,rfl,hS⟩:=runs_of hO;have HS:=Lib.hid hS;clear hO hS;have hsz1:=hB1.size;go_wp2_with fail;go_loopw [8,9] (fun lv iv wr=> ∃ (i:Nat) (acc:List Int),i≤m.length∧iv= .int .i64 (i:Int)∧Hid (OwnR wr w1.heap.size lv acc)∧acc.length≤i∧Hid (sq 32 false m=acc++sq 32 (!acc.isEmpty) (m.drop i))∧Below w1.heap.size w1 wr) (fun _ iv _=>m.length- (intOf iv).toNat);case atStart=>
   refine⟨0,[],Nat.zero_le _,rfl,?_,by simp,by show _=_;simp,(Below.refl _ _).alloc (Nat.le_refl _) _⟩;exact World.ownsRow_made _ #[] 0 (by simp) (by unfold maxLen;omega) rfl
  case round=>
   obtain⟨i,acc,hi,rfl,hO,hal,hQ,hB⟩:=hrel;have hsz:=hB.size;obtain⟨ao',cap',rfl⟩:=ownR_form hO.out;by_cases hlt:i<m.length
   ·have hlt':(i:Int)<(m.length:Int):=(by omega);obtain⟨b,o,hao,hc⟩:=runs_below HS.out hB i hlt;have q1:=sq_drop_ne hlt hQ.out;have q2:=sq_drop_on hlt hQ.out;have q3:=sq_drop_off hlt hQ.out;by_cases hx:m[i]=32
    ·by_cases ha:0<acc.length
     ·have ha':(0:Int)<(acc.length:Int):=(by omega);by_cases hi2:i+1<m.length
      ·have hi2':(i:Int)+1<(m.length:Int):=(by omega);obtain⟨b',o',hao',hc'⟩:=runs_below HS.out hB (i+1) hi2;rw[hao]at hao';cases hao';subst hao;by_cases hy:m[i+1]=32
       ·have hQ2:=q3 hx (Or.inr (Or.inr ⟨hi2,hy⟩));rw[hx]at hc;rw[hy]at hc';have HQ2:=Lib.hid hQ2;clear q1 q2 q3 hx hy hQ2;go_wp2_with fail;go_roundw;case rel=>exact⟨i+1,acc,by omega,by go_num,hO,by omega,HQ2,hB⟩
        case measure=>simp[intOf];omega
       ·have hQ2:=q2 hx ha hi2 hy;rw[hx]at hc hQ2;obtain⟨v',w2,hap,hO1,hB2⟩:=ownR_app 32 hO.out (by omega) hsz;generalize m[i+1]=y at hc' hy;have hy':(y==32)=false:=(by rw[beq_eq_false_iff_ne];exact hy);have HQ2:=Lib.hid hQ2;have HO1:=Lib.hid hO1;clear q1 q2 q3 hx hy hQ2 hO1;go_wp2_with (at_builtin;refine Lib.wpList_append_run _ rfl _ _ _ _ rfl _ _ rfl rfl _ _ hap ?_);go_roundw;case rel=>exact⟨i+1,acc++[32],by omega,by go_num,HO1,by simp;omega,HQ2,hB.trans hB2⟩
        case measure=>simp[intOf];omega
      ·have hi2': ¬ (i:Int)+1<(m.length:Int):=(by omega);have hQ2:=q3 hx (Or.inr (Or.inl (by omega)));subst hao;rw[hx]at hc;have HQ2:=Lib.hid hQ2;clear q1 q2 q3 hx hQ2;go_wp2_with fail;go_roundw;case rel=>exact⟨i+1,acc,by omega,by go_num,hO,by omega,HQ2,hB⟩
       case measure=>simp[intOf];omega
     ·have ha': ¬ (0:Int)<(acc.length:Int):=(by omega);have hQ2:=q3 hx (Or.inl (by omega));subst hao;rw[hx]at hc;have HQ2:=Lib.hid hQ2;have hacc:acc.length=0:=(by omega);obtain rfl:acc=[]:=List.eq_nil_of_length_eq_zero hacc;clear q1 q2 q3 hx hQ2 ha hacc;go_wp2_with fail;go_roundw;case rel=>exact⟨i+1,[],by omega,by go_num,hO,by simp,HQ2,hB⟩
      case measure=>simp[intOf];omega
    ·have hQ2:=q1 hx;subst hao;generalize m[i]=x at hc hx hQ2;have hx':(x==32)=false:=(by rw[beq_eq_false_iff_ne];exact hx);have hx2:(x !=32)=true:=(by rw[bne_iff_ne];exact hx);obtain⟨v',w2,hap,hO1,hB2⟩:=ownR_app x hO.out (by omega) hsz;have HQ2:=Lib.hid hQ2;have HO1:=Lib.hid hO1;clear q1 q2 q3 hx hQ2 hO1;go_wp2_with (at_builtin;refine Lib.wpList_append_run _ rfl _ _ _ _ rfl _ _ rfl rfl _ _ hap ?_);go_roundw;case rel=>exact⟨i+1,acc++[x],by omega,by go_num,HO1,by simp;omega,HQ2,hB.trans hB2⟩
     case measure=>simp[intOf];omega
   ·obtain rfl:i=m.length:=(by omega);have he:=sq_drop_end hQ.out;have hK:=HK.out;rw[he]at hK;have HE:=Lib.hid he;have HK2:=Lib.hid hK;obtain⟨ao2,cap2,hv,hS2⟩:=runs_of hO.out;cases hv;have HS2:=Lib.hid hS2;have CT:=Lib.hid (text_any ao' cap' acc wr (by omega) HS2 HK2);clear he hK hS2;go_wp2_with fail;refine CT.out.mono ?_;rintro e w2 ⟨rfl,hB2⟩;go_wp2_with fail;go_ret2;refine⟨?_,hB1.trans ((hB.trans (hB2.mono hsz)).mono hsz1)⟩;show _=Ending.returned (pairV (some (text (sq 32 false m))));rw[HE.out];rfl
end prw
open Go.RowKit
namespace prw
open run prp
def Env (w:World):Prop:= ∃m:Int,w.cell? ⟨1,0,none⟩=some (.int .i64 m)
theorem env_below {w w':World}(h:Env w)(hb:Below w.heap.size w w'):Env w':=by obtain⟨m,hm⟩:=h;exact⟨m,(hb.cell (World.block_lt_of_cell? w _ hm)).trans hm⟩
theorem text_map_len {fold:Bool}{m:List Int}(i:Nat)(hi:i≤m.length):(text (mapped fold (m.take i))).length≤4*i:=by have h1:=text_len4 (mapped fold (m.take i));have h2:=mapped_take_len fold m i;omega
theorem map_any (s:ByteArray)(fold:Bool)(w:World)(hs:s.size≤1100000):Calls Tryz.prog 192 #[.string s,.bool fold] w fun e w'=>e= .returned (pairV (mapO s.data.toList fold))∧Below w.heap.size w w':=by
 rw[mapO_eq];have CR:=runes_any s w hs;have HM:Hid (mapO' s.data.toList fold=(runes s.data.toList).map (mapped fold)):=rfl;cases hrs:runes s.data.toList with
 | none=>rw[hrs]at CR HM;have CH:=Lib.hid CR;clear hrs CR;go_enter Tryz.func192,Tryz.ntmps192;go_wp2_with fail;refine CH.out.mono ?_;rintro e w1 ⟨hB1,rfl⟩;go_wp2_with fail;go_ret2;refine⟨?_,hB1⟩;rw[HM.out];rfl
 | some m=>
  rw[hrs]at CR HM;have hml:=runes_len hrs;have hok:=(runes_text _ _ m (Nat.le_refl _) hrs).2;have CH:=Lib.hid CR;have HK:=Lib.hid hok;have hml2:m.length≤1100000:=by rw[kt.size_len]at hml;omega
  clear hrs CR hok hml;go_enter Tryz.func192,Tryz.ntmps192;go_wp2_with fail;refine CH.out.mono ?_;rintro e w1 ⟨hB1,v,rfl,hO⟩;obtain⟨ao,cap,rfl,hS⟩:=runs_of hO;have HS:=Lib.hid hS;clear hO hS;have hsz1:=hB1.size;go_wp2_with fail;go_loopw [10,21] (fun xv iv wr=> ∃ (i:Nat),i≤m.length∧iv= .int .i64 (i:Int)∧Hid (bld.Is w1.heap.size w1.heap.size (text (mapped fold (m.take i))) wr)∧Below w1.heap.size w1 wr∧w1.heap.size<wr.heap.size) (fun _ iv _=>m.length- (intOf iv).toNat);case atStart=>
   refine⟨0,Nat.zero_le _,rfl,?_,(Below.refl _ _).alloc (Nat.le_refl _) _,by simp⟩;exact bld.fresh w1
  case round=>
   obtain⟨i,hi,rfl,hI,hB,hgt⟩:=hrel;have hsz:=hB.size;by_cases hlt:i<m.length
   ·have hlt':(i:Int)<(m.length:Int):=(by omega);obtain⟨b,o,hao,hc⟩:=runs_below HS.out hB i hlt;subst hao;have hx:=HK.out m[i] (by simp);have h1:=mapped_take_drop (fold:=fold) hlt;have h2:=mapped_take_keep (fold:=fold) hlt;have h3:=Lib.hid (text_map_len (fold:=fold) i hi);generalize m[i]=x at hc hx h1 h2;have hx3:=hx;obtain⟨x0,x1,_⟩:=hx;have CD:=Lib.hid (dropped_any x);by_cases hd:dropB x=true
    ·have hI1:=hI.out;rw[←h1 hd]at hI1;have HI1:=Lib.hid hI1;rw[hd]at CD;clear h1 h2 hd hI1;go_wp2_with fail;refine(CD.out wr).mono ?_;rintro e w2 ⟨rfl,rfl⟩;go_wp2_with fail;go_roundw;case rel=>exact⟨i+1,by omega,by go_num,HI1,hB,hgt⟩
     case measure=>simp[intOf];omega
    ·have hd':dropB x=false:=(by simpa using hd);rw[hd']at CD;have h2':=h2 hd';have hy:okR (mapR fold x):=mapR_ok hx3;have CW:=bld.writeRune_any w1.heap.size w1.heap.size (text (mapped fold (m.take i))) (mapR fold x) wr hI.out hy.1 hy.2.1 (by have:=h3.out;omega) hsz;have e1:text (mapped fold (m.take i))++enc (mapR fold x)=text (mapped fold (m.take (i+1))):=(by rw[h2',text_append];simp[text]);rw[e1]at CW;clear h1 h2 hd hd' h2' e1 hy;have CB:=Lib.hid (blank_any x);by_cases hb:blankB x=true
     ·rw[hb]at CB;rw[mapR_blank hb]at CW;have CWH:=Lib.hid CW;clear CW hb;go_wp2_with fail;refine(CD.out wr).mono ?_;rintro e w2 ⟨rfl,rfl⟩;go_wp2_with fail;refine(CB.out wr).mono ?_;rintro e w2 ⟨rfl,rfl⟩;go_wp2_with fail;refine CWH.out.mono ?_;rintro e w2 ⟨v,rfl,hI2,hB2⟩;have HI2:=Lib.hid hI2;have hsz2:=hB2.size;clear hI2;go_wp2_with fail;go_roundw;case rel=>exact⟨i+1,by omega,by go_num,HI2,hB.trans hB2,by omega⟩
      case measure=>simp[intOf];omega
     ·have hb':blankB x=false:=(by simpa using hb);rw[hb']at CB;clear hb;cases fold with
      | true=>
       rw[mapR_small hb']at CW;have CS:=Lib.hid (fun w=>small_any x w x0 x1);generalize smallI x=y at CS CW;have CWH:=Lib.hid CW;clear CW hb';go_wp2_with fail;refine(CD.out wr).mono ?_;rintro e w2 ⟨rfl,rfl⟩;go_wp2_with fail;refine(CB.out wr).mono ?_;rintro e w2 ⟨rfl,rfl⟩;go_wp2_with fail;refine(CS.out wr).mono ?_;rintro e w2 ⟨rfl,rfl⟩;go_wp2_with fail;refine CWH.out.mono ?_;rintro e w2 ⟨v,rfl,hI2,hB2⟩;have HI2:=Lib.hid hI2;have hsz2:=hB2.size;clear hI2;go_wp2_with fail;go_roundw;case rel=>exact⟨i+1,by omega,by go_num,HI2,hB.trans hB2,by omega⟩
       case measure=>simp[intOf];omega
      | false=>
       rw[mapR_same hb']at CW;have CWH:=Lib.hid CW;clear CW hb';go_wp2_with fail;refine(CD.out wr).mono ?_;rintro e w2 ⟨rfl,rfl⟩;go_wp2_with fail;refine(CB.out wr).mono ?_;rintro e w2 ⟨rfl,rfl⟩;go_wp2_with fail;refine CWH.out.mono ?_;rintro e w2 ⟨v,rfl,hI2,hB2⟩;have HI2:=Lib.hid hI2;have hsz2:=hB2.size;clear hI2;go_wp2_with fail;go_roundw;case rel=>exact⟨i+1,by omega,by go_num,HI2,hB.trans hB2,by omega⟩
       case measure=>simp[intOf];omega
   ·obtain rfl:i=m.length:=(by omega);have hI1:=hI.out;rw[List.take_length]at hI1;have CS:=Lib.hid (Tryz.Builder_String_any w1.heap.size w1.heap.size (text (mapped fold m)) wr hI1 hsz);clear hI1;go_wp2_with fail;refine CS.out.mono ?_;rintro e w2 ⟨rfl,hB2⟩;go_wp2_with fail;go_ret2;refine⟨?_,hB1.trans ((hB.trans hB2).mono hsz1)⟩;rw[HM.out];rfl
end prw
open Go.RowKit
namespace prw
open run prp
theorem infoStr:(Tryz.prog.info? 9).map (fun i=>(i.zero,i.size,i.bytes))=some (some (.string ByteArray.empty),1,16):=by kernel_rfl
def scells (l:List ByteArray):List Value:=l.map Value.string
theorem scells_length (l:List ByteArray):(scells l).length=l.length:=by simp[scells]
def OwnT (w:World)(B:Nat)(v:Value)(l:List ByteArray):Prop:=w.ownsRow B 9 1 v (scells l).length (scells l)
theorem ownT_app {w:World}{B:Nat}{v:Value}{l:List ByteArray}(x:ByteArray)(hown:OwnT w B v l)(hl:l.length≤100000000)(hbase:B≤w.heap.size):
  ∃v' w1,(Builtin.append_ #[35,35] 35 #[v,.slice (some ⟨w.heap.size,0,none⟩) 1 1]).run Tryz.prog (w.alloc (.cells #[.string x] 9))= .ok v' w1∧OwnT w1 B v' (l++[x])∧Below B w w1:=by
 obtain⟨v',w1,h1,h2,_,h3⟩:=kt.app1 (P:=Tryz.prog) (t:=35) (ty:=35) Tryz.underlying35 infoStr rfl (.string x) rfl hown (by rw[scells_length];unfold maxLen;omega) (by rw[scells_length];omega) hbase;refine⟨v',w1,h1,?_,h3⟩;unfold OwnT;have e:scells (l++[x])=scells l++[.string x]:=by simp[scells]
 rw[e];exact h2
theorem ownT_cells {w:World}{B:Nat}{v:Value}{l:List ByteArray}(h:OwnT w B v l): ∃ (ao:Option Addr) (cap:Nat),v= .slice ao l.length cap∧l.length≤cap∧(l≠[]→ ∃g,ao=some ⟨g,0,none⟩∧g<w.heap.size∧ ∀ (j:Nat) x,l[j]? =some x→w.cell? ⟨g,0+j,none⟩=some (.string x)):=by
 obtain⟨ao,cap,hv,_,hc⟩:=kt.row_slice h;rw[scells_length]at hv hc;subst hv;refine⟨ao,cap,rfl,hc,fun hne=> ?_⟩;have h':w.ownsRow B 9 1 (.slice ao l.length cap) l.length (scells l):=by have:=h;unfold OwnT at this;rw[scells_length]at this;exact this
 obtain⟨g,rfl,hcc,_⟩:=kt.row_some h' (List.length_pos_iff.2 hne);have hcell: ∀ (j:Nat) x,l[j]? =some x→w.cell? ⟨g,0+j,none⟩=some (.string x):=by intro j x hj;rw[Nat.zero_add];exact hcc j _ (by simp[scells,hj])
 refine⟨g,rfl,?_,hcell⟩;obtain⟨x,t,rfl⟩:=List.exists_cons_of_ne_nil hne;exact World.block_lt_of_cell? w ⟨g,0+0,none⟩ (hcell 0 x rfl)
theorem split_pieces (t:ByteArray):(Lib.splitB ⟨#[32]⟩ 0 (Lib.countB t ⟨#[32]⟩) t).map (·.data.toList)=pieces 32 t.data.toList∧(Lib.splitB ⟨#[32]⟩ 0 (Lib.countB t ⟨#[32]⟩) t).length=Lib.countB t ⟨#[32]⟩+1∧Lib.countB t ⟨#[32]⟩≤t.size:=by
 refine⟨?_,Lib.splitB_all _ (by decide) 0 _ t rfl,Lib.countB_le _ (by decide) _ t (Nat.le_refl _)⟩;rw[Lib.splitB_data];show Lib.splitK [32] 0 (Lib.countB t ⟨#[32]⟩) t.data.toList=_;have:Lib.countB t ⟨#[32]⟩=t.data.toList.count 32:=by show Lib.count t.data.toList [32]=_;exact Lib.count_one 32 _
 rw[this];exact splitK_pieces 32 _ _ rfl
def neE (x:ByteArray):Bool:=decide (x.data.toList≠[])
theorem words_eq (ps:List ByteArray):(ps.filter neE).map (·.data.toList)=(ps.map (·.data.toList)).filter (· ≠[]):=by rw[List.filter_map];rfl
theorem wf_keep {m:List ByteArray}{i:Nat}(hi:i<m.length)(h:neE m[i]=true):(m.take (i+1)).filter neE=(m.take i).filter neE++[m[i]]:=by rw[List.take_succ_eq_append_getElem hi,List.filter_append];simp[h]
theorem wf_drop {m:List ByteArray}{i:Nat}(hi:i<m.length)(h:neE m[i]=false):(m.take (i+1)).filter neE=(m.take i).filter neE:=by rw[List.take_succ_eq_append_getElem hi,List.filter_append];simp[h]
theorem wf_len (m:List ByteArray)(i:Nat):((m.take i).filter neE).length≤i:=by refine Nat.le_trans (List.length_filter_le _ _) ?_;rw[List.length_take];omega
theorem neE_false {x:ByteArray}(h:neE x=false):x=⟨#[]⟩:=by apply kt.str_eq;unfold neE at h;simpa using h
theorem pairV_some (t:List UInt8):pairV (some t)= .tuple #[.string ⟨t.toArray⟩,.int .i64 0]:=rfl
theorem ready_any (s:ByteArray)(fold:Bool)(w:World)(hs:s.size≤1100000)(hE:Hid (Env w)):Calls Tryz.prog 134 #[.string s,.bool fold] w fun e w'=>e= .returned (pairV (readyO s.data.toList fold))∧Below w.heap.size w w':=by
 have CR:=map_any s fold w hs;have HM:=Lib.hid (readyO_of_map s.data.toList fold);have HL:= @readyO_len s.data.toList;cases hrs:mapO s.data.toList fold with
 | none=>rw[hrs]at CR HM;have CH:=Lib.hid CR;clear hrs CR HL;go_enter Tryz.func134,Tryz.ntmps134;go_wp2_with fail;refine CH.out.mono ?_;rintro e w1 ⟨rfl,hB1⟩;unfold pairV;go_wp2_with fail;go_ret2;refine⟨?_,hB1⟩;rw[HM.out];rfl
 | some t=>
  rw[hrs]at CR HM;have htl:=mapO_len hrs;rw[kt.size_len]at htl;have hjl:=HL HM.out;obtain⟨ta,hta⟩: ∃ta:ByteArray,ta=⟨t.toArray⟩:=⟨_,rfl⟩;have htd:ta.data.toList=t:=by rw[hta]
  rw[pairV_some,←hta]at CR;have CH:=Lib.hid CR;obtain⟨hp1,hp2,hp3⟩:=split_pieces ta;rw[htd]at hp1;have hts:ta.size≤1100000:=by rw[←kt.size_len,htd];omega
  have CSP: ∀ (W:World) (m:Int),W.cell? ⟨1,0,none⟩=some (.int .i64 m)→_:=fun W m hm=>Tryz.strings_Split ta ⟨#[32]⟩ m W (by omega) hm (by decide);generalize hps:Lib.splitB ⟨#[32]⟩ 0 (Lib.countB ta ⟨#[32]⟩) ta=ps at hp1 hp2 CSP;generalize hcn:Lib.countB ta ⟨#[32]⟩=cn at hp2 hp3 CSP;rw[←hp2]at CSP;have hpl:ps.length≤1100001:=by omega
  have HSP:=Lib.hid CSP;have hW:=words_eq ps;rw[hp1]at hW;simp only[Option.map_some]at HM hjl;rw[←hW]at HM hjl;have HJL:=Lib.hid hjl;clear hrs CR HL hta htd htl hjl hp1 hp2 hp3 hps hcn CSP hW hts;go_enter Tryz.func134,Tryz.ntmps134;go_wp2_with fail;refine CH.out.mono ?_;rintro e w1 ⟨rfl,hB1⟩;obtain⟨mx,hmx⟩:=env_below hE.out hB1;have HSP1:=Lib.hid (HSP.out w1 mx hmx);clear hmx;have hsz1:=hB1.size;go_wp2_with fail;refine HSP1.out.mono ?_;rintro e w2 ⟨rfl,hw2⟩;have hB2:Below w1.heap.size w1 w2:=by rw[hw2];exact(Below.refl _ _).alloc (Nat.le_refl _) _
  have hsz2:w1.heap.size<w2.heap.size:=by rw[hw2];simp
  have HC2:Hid (∀ (j:Nat) (hj:j<ps.length),w2.cell? ⟨w1.heap.size,j,none⟩=some (.string ps[j])):=by intro j hj;rw[hw2,World.cell?_alloc_new];simp[hj]
  clear hw2 HSP HSP1 CH;go_wp2_with fail;go_loopw [8,10,23] (fun wv pv iv wr=> ∃ (i:Nat),i≤ps.length∧iv= .int .i64 (i:Int)∧Hid (OwnT wr w2.heap.size wv ((ps.take i).filter neE))∧Below w2.heap.size w2 wr) (fun _ _ iv _=>ps.length- (intOf iv).toNat);case atStart=>exact⟨0,Nat.zero_le _,rfl,World.ownsRow_nil _ _ _ _,Below.refl _ _⟩
  case round=>
   obtain⟨i,hi,rfl,hO,hB⟩:=hrel;have hsz:=hB.size;by_cases hlt:i<ps.length
   ·have hlt':(i:Int)<(ps.length:Int):=(by omega);have hc:=(hB.cell (p:=⟨w1.heap.size,i,none⟩) hsz2).trans (HC2.out i hlt);have q1:=wf_keep hlt;have q2:=wf_drop hlt;have q3:=wf_len ps i;generalize ps[i]=p at hc q1 q2;by_cases hp:neE p=true
    ·obtain⟨v',w3,hap,hO1,hB3⟩:=ownT_app p hO.out (by omega) hsz;rw[←q1 hp]at hO1;have HO1:=Lib.hid hO1;have g1:(p.toList==[])=false:=(by rw[beq_eq_false_iff_ne,Lib.toList_data];unfold neE at hp;simpa using hp);have g2: ¬p.toList=[]:=(by simpa using g1);clear q1 q2 q3 hp hO1;go_wp2_with (at_builtin;refine Lib.wpList_append_run _ rfl _ _ _ _ rfl _ _ rfl rfl _ _ hap ?_);go_roundw;case rel=>exact⟨i+1,by omega,by go_num,HO1,hB.trans hB3⟩
     case measure=>simp[intOf];omega
    ·have hp':neE p=false:=(by simpa using hp);have hO1:=hO.out;rw[←q2 hp']at hO1;have HO1:=Lib.hid hO1;obtain rfl:=neE_false hp';clear q1 q2 q3 hp hp' hO1;go_wp2_with fail;go_roundw;case rel=>exact⟨i+1,by omega,by go_num,HO1,hB⟩
     case measure=>simp[intOf];omega
   ·obtain rfl:i=ps.length:=(by omega);have hO1:=hO.out;rw[List.take_length]at hO1;have q3:=wf_len ps ps.length;rw[List.take_length]at q3;obtain⟨ao,cap,rfl,hcap,hcs⟩:=ownT_cells hO1;generalize ps.filter neE=ws at hO1 q3 hcap hcs HM HJL;by_cases hne:ws=[]
    ·subst hne;have CJ:=Lib.hid (Tryz.strings_Join_none ao cap ⟨#[32]⟩ wr);clear hO1 q3 hcap hcs;go_wp2_with fail;refine CJ.out.mono ?_;rintro e w3 ⟨rfl,rfl⟩;go_wp2_with fail;go_ret2;refine⟨?_,hB1.trans ((hB2.trans (hB.mono (by omega))).mono hsz1)⟩;rw[HM.out];rfl
    ·obtain⟨g,rfl,hg,hcc⟩:=hcs hne;have CJ:=Lib.hid (Tryz.strings_Join g 0 cap ws ⟨#[32]⟩ wr hcc hg (by omega) hcap (by have:=HJL.out;show(Lib.join _ [32]).length≤_;rw[kt.size_len]at this;omega));clear hO1 q3 hcap hcs hne hcc;go_wp2_with fail;refine CJ.out.mono ?_;rintro e w3 ⟨rfl,hB3⟩;go_wp2_with fail;go_ret2;refine⟨?_,hB1.trans ((hB2.trans ((hB.trans (hB3.mono hsz)).mono (by omega))).mono hsz1)⟩;rw[HM.out];rfl
end prw
open Go.RowKit
namespace dnw
open dnp
structure Av where
 t:ByteArray
 v:ByteArray
def Avas (w:World)(ao:Option Addr)(l:List Av):Prop:= ∀i (hi:i<l.length),∃b o,ao=some ⟨b,o,none⟩∧w.cell? ⟨b,o+i*2,none⟩=some (.string l[i].t)∧w.cell? ⟨b,o+i*2+1,none⟩=some (.string l[i].v)
theorem avas_below {w w':World}{ao:Option Addr}{l:List Av}(h:Avas w ao l)(hb:Below w.heap.size w w'):Avas w' ao l:=by intro i hi;obtain⟨b,o,h1,h2,h3⟩:=h i hi;exact⟨b,o,h1,(hb.cell (World.block_lt_of_cell? w _ h2)).trans h2,(hb.cell (World.block_lt_of_cell? w _ h3)).trans h3⟩
def Rdns (w:World)(ao:Option Addr)(n:List (List Av)):Prop:= ∀i (hi:i<n.length),∃b o ao' cap',ao=some ⟨b,o,none⟩∧w.cell? ⟨b,o+i,none⟩=some (.slice ao' n[i].length cap')∧n[i].length≤cap'∧Avas w ao' n[i]
theorem rdns_below {w w':World}{ao:Option Addr}{n:List (List Av)}(h:Rdns w ao n)(hb:Below w.heap.size w w'):Rdns w' ao n:=by intro i hi;obtain⟨b,o,ao',cap',h1,h2,h3,h4⟩:=h i hi;exact⟨b,o,ao',cap',h1,(hb.cell (World.block_lt_of_cell? w _ h2)).trans h2,h3,avas_below h4 hb⟩
def valOK (v:List UInt8):Bool:=decide (v.length≤255)&&match prp.readyO v true with
 | none=>false
 | some t=>decide (t≠[])
theorem valOK_long {v:ByteArray}(h: ¬v.size≤255):false=valOK v.data.toList:=by unfold valOK;rw[decide_eq_false (by rw[kt.size_len];exact h)];rfl
theorem valOK_none {v:ByteArray}(h:prp.readyO v.data.toList true=none):false=valOK v.data.toList:=by unfold valOK;rw[h];simp
theorem valOK_some {v:ByteArray}{t:List UInt8}(hl:v.size≤255)(h:prp.readyO v.data.toList true=some t):decide (t≠[])=valOK v.data.toList:=by
 unfold valOK;have h2:decide (v.data.toList.length≤255)=true:=by rw[decide_eq_true_iff,kt.size_len];exact hl
 rw[h,h2];simp
theorem rightValue_any (s:ByteArray)(w:World)(hs:s.size≤1100000)(hE:Hid (prw.Env w)):Calls Tryz.prog 210 #[.string s] w fun e w'=>e= .returned (.bool (valOK s.data.toList))∧Below w.heap.size w w':=by
 have CR:=prw.ready_any s true w hs hE;by_cases hl:s.size≤255
 ·have hl':(s.size:Int)≤255:=by omega
  cases hr:prp.readyO s.data.toList true with
  | none=>rw[hr]at CR;have HR:=Lib.hid CR;have HN:=Lib.hid (valOK_none hr);clear CR hr;go_enter Tryz.func210,Tryz.ntmps210;go_wp2_with fail;refine HR.out.mono ?_;rintro e w1 ⟨rfl,hB1⟩;unfold prw.pairV;go_wp2_with fail;go_ret;exact⟨kt.ret_bool HN.out,hB1⟩
  | some t=>
   rw[hr,prw.pairV_some]at CR;have HN:=Lib.hid (valOK_some hl hr);obtain⟨ta,hta⟩: ∃ta:ByteArray,ta=⟨t.toArray⟩:=⟨_,rfl⟩;have htd:ta.data.toList=t:=(by rw[hta]);rw[←hta]at CR;have HR:=Lib.hid CR;clear CR hr hta;by_cases ht:t=[]
   ·subst ht;obtain rfl:ta=⟨#[]⟩:=kt.str_eq htd;clear htd;go_enter Tryz.func210,Tryz.ntmps210;go_wp2_with fail;refine HR.out.mono ?_;rintro e w1 ⟨rfl,hB1⟩;go_wp2_with fail;go_ret;exact⟨kt.ret_bool HN.out,hB1⟩
   ·have g1:(ta.toList==[])=false:=(by rw[beq_eq_false_iff_ne,Lib.toList_data,htd];exact ht);have g2: ¬ta.toList=[]:=(by simpa using g1);have HN':Hid (true=valOK s.data.toList):=(by have:=HN.out;rw[decide_eq_true ht]at this;exact this);clear htd ht;go_enter Tryz.func210,Tryz.ntmps210;go_wp2_with fail;refine HR.out.mono ?_;rintro e w1 ⟨rfl,hB1⟩;go_wp2_with fail;go_ret;exact⟨kt.ret_bool HN'.out,hB1⟩
 ·have hl':decide ((s.size:Int)≤255)=false:=by rw[decide_eq_false_iff_not];omega
  have HN:=Lib.hid (valOK_long hl);have pv: ∀o:Option (List UInt8),∃ (t:ByteArray) (er:Int),prw.pairV o= .tuple #[.string t,.int .i64 er]:=fun o=>by cases o<;>exact⟨_,_,rfl⟩
  obtain⟨t1,e1,h1⟩:=pv (prp.readyO s.data.toList true);rw[h1]at CR;have HR:=Lib.hid CR;clear CR h1 pv hl;go_enter Tryz.func210,Tryz.ntmps210;go_wp2_with fail;refine HR.out.mono ?_;rintro e w1 ⟨rfl,hB1⟩;go_wp2_with fail;go_ret;exact⟨kt.ret_bool HN.out,hB1⟩
theorem rvalue_any (s:ByteArray)(w:World)(hs:s.size≤1100000):Calls Tryz.prog 195 #[.string s] w fun e w'=>e= .returned (.bool (valOK s.data.toList))∧Below w.heap.size w w':=by
 have CR:=prw.rready_any s true w hs;by_cases hl:s.size≤255
 ·have hl':(s.size:Int)≤255:=by omega
  cases hr:prp.readyO s.data.toList true with
  | none=>rw[hr]at CR;have HR:=Lib.hid CR;have HN:=Lib.hid (valOK_none hr);clear CR hr;go_enter Tryz.func195,Tryz.ntmps195;go_wp2_with fail;refine HR.out.mono ?_;rintro e w1 ⟨rfl,hB1⟩;unfold prw.pairV;go_wp2_with fail;go_ret;exact⟨kt.ret_bool HN.out,hB1⟩
  | some t=>
   rw[hr,prw.pairV_some]at CR;have HN:=Lib.hid (valOK_some hl hr);obtain⟨ta,hta⟩: ∃ta:ByteArray,ta=⟨t.toArray⟩:=⟨_,rfl⟩;have htd:ta.data.toList=t:=(by rw[hta]);have hts:ta.size=t.length:=(by rw[←kt.size_len,htd]);rw[←hta]at CR;have HR:=Lib.hid CR;clear CR hr hta;by_cases ht:t=[]
   ·subst ht;obtain rfl:ta=⟨#[]⟩:=kt.str_eq htd;clear htd hts;go_enter Tryz.func195,Tryz.ntmps195;go_wp2_with fail;refine HR.out.mono ?_;rintro e w1 ⟨rfl,hB1⟩;go_wp2_with fail;go_ret;exact⟨kt.ret_bool HN.out,hB1⟩
   ·have hp:Hid (0<ta.size):=(by have:=List.length_pos_iff.2 ht;show 0<_;omega);have HN':Hid (true=valOK s.data.toList):=(by have:=HN.out;rw[decide_eq_true ht]at this;exact this);clear htd ht hts;go_enter Tryz.func195,Tryz.ntmps195;go_wp2_with fail;refine HR.out.mono ?_;rintro e w1 ⟨rfl,hB1⟩;go_wp2_with fail;go_ret;exact⟨kt.ret_bool ((decide_eq_true hp.out).trans HN'.out),hB1⟩
 ·have hl':decide ((s.size:Int)≤255)=false:=by rw[decide_eq_false_iff_not];omega
  have HN:=Lib.hid (valOK_long hl);have pv: ∀o:Option (List UInt8),∃ (t:ByteArray) (er:Int),prw.pairV o= .tuple #[.string t,.int .i64 er]:=fun o=>by cases o<;>exact⟨_,_,rfl⟩
  obtain⟨t1,e1,h1⟩:=pv (prp.readyO s.data.toList true);rw[h1]at CR;have HR:=Lib.hid CR;clear CR h1 pv hl;go_enter Tryz.func195,Tryz.ntmps195;go_wp2_with fail;refine HR.out.mono ?_;rintro e w1 ⟨rfl,hB1⟩;go_wp2_with fail;go_ret;exact⟨kt.ret_bool HN.out,hB1⟩
end dnw
end Go.Proofs.YtmnpfkbjpeaemaaGreatDoor
