/-
  A part of the proof of FileReads; no condition.
-/
import Derived.Shelf.Strings.Cut
import Derived.Shelf.Strings.Replace
import Derived.Shelf.Strings.OnBuilder
import Derived.Shelf.Strings.Prefix
import Derived.Shelf.Small.Wraps
import Derived.Shelf.Small.Strs
import Derived.Shelf.Strconv.Itoa3
import Derived.Shelf.Strconv.AtoiAll
import Derived.Shelf.Sort.Plain
import Derived.Shelf.SlGeneric
import Derived.Shelf.SlLaysF0
import Derived.Ground.SlsfProg
import Derived.Ground.NamesProg
import Derived.Test.YtbhokokpplmigaaGreatDoorProg
import Derived.Test.YtbhokokpplmigaaGreatDoorEvGC
import Derived.Lib.AtoiErrMem
import Derived.Lib.AppendIntMem
import Derived.KernelRfl
import Derived.Test.YtbhokokpplmigaaGreatDoorFaGC
import Derived.WalkKit
import Derived.Deep.RegionLaw
import Derived.Lib.Builder
import Derived.Lib.UnsafeStr
import Derived.Lib.AppendZerosOnto
import Derived.Lib.Walk
import Derived.Laws.Externs
set_option linter.all false
namespace Go.Proofs.YtbhokokpplmigaaGreatDoor.fr
open Go.Proofs Go.Shelf
theorem cS{α:Type}{x:Option α}{a b:α}(h:x=some a)(e:a=b:=by kernel_rfl):x=some b:=h.trans (congrArg some e)
open Tryz
def uR:Go.Shelf.Ren:=⟨λ|99=>118|101=>51|103=>61|104=>67|125=>129|128=>181|129=>182|137=>219|138=>136|143=>137|145=>11|154=>89|155=>52|156=>16|165=>40|166=>15|169=>26|171=>44|172=>159|190=>91|195=>187|197=>138|205=>252|206=>135|207=>158|208=>88|210=>100|211=>116|217=>112|218=>188|219=>66|220=>32|224=>114|225=>113|240=>39|241=>77|243=>78|244=>215|245=>216|246=>126|247=>240|258=>140|260=>189|266=>156|267=>115|276=>76|277=>125|279=>241|280=>242|281=>243|282=>244|283=>169|284=>170|285=>171|286=>172|287=>250|302=>190|303=>191|304=>192|305=>193|306=>194|307=>195|308=>196|309=>197|310=>198|314=>157|316=>251|317=>221|318=>222|319=>223|320=>224|321=>254|322=>255|329=>226|330=>227|333=>230|334=>231|335=>232|336=>233|337=>245|338=>246|344=>248|n=>n,λ|0=>0|2=>2|3=>3|4=>4|5=>5|9=>9|20=>20|21=>21|24=>149|31=>59|37=>56|46=>207|51=>249|53=>263|59=>48|70=>55|72=>58|75=>61|76=>62|80=>94|85=>313|105=>233|119=>305|127=>146|131=>208|138=>307|139=>308|143=>330|145=>332|146=>250|164=>166|167=>312|168=>315|171=>262|173=>266|175=>322|182=>269|183=>270|210=>325|212=>298|213=>299|218=>300|222=>178|228=>318|229=>319|232=>327|233=>328|n=>n,λ|1=>0|3=>3|4=>4|15=>5|16=>6|17=>2|18=>7|19=>8|n=>n⟩
theorem fD:Go.Proofs.LaysC.n172 Tryz.prog uR:={
 mixed:=by kernel_rfl
 f129:=cS func182
 f171:=cS func44
 f172:=cS func159
 f205:=cS func252
 f243:=cS func78
 f244:=cS func215
 f245:=cS func216
 f246:=cS func126
 f247:=cS func240
 f279:=cS func241
 f280:=cS func242
 f281:=cS func243
 f282:=cS func244
 f283:=cS func169
 f284:=cS func170
 f285:=cS func171
 f286:=cS func172
 f287:=cS func250
 f316:=cS func251
 f317:=cS func221
 f318:=cS func222
 f319:=cS func223
 f320:=cS func224
 f321:=cS func254
 f322:=cS func255
 f337:=cS func245
 f338:=cS func246
 t0:=underlying0
 a0:=isAgg0
 z0:=sizeOf0
 v0:=zeroValue0
 t2:=underlying2
 a2:=isAgg2
 z2:=sizeOf2
 v2:=zeroValue2
 t3:=underlying3
 a3:=isAgg3
 z3:=sizeOf3
 v3:=zeroValue3
 t4:=underlying4
 a4:=isAgg4
 z4:=sizeOf4
 v4:=zeroValue4
 t5:=underlying5
 a5:=isAgg5
 z5:=sizeOf5
 v5:=zeroValue5
 t9:=underlying9
 a9:=isAgg9
 z9:=sizeOf9
 v9:=zeroValue9
 t20:=underlying20
 a20:=isAgg20
 z20:=sizeOf20
 v20:=zeroValue20
 t21:=underlying21
 a21:=isAgg21
 z21:=sizeOf21
 v21:=zeroValue21
 t37:=underlying56
 a37:=isAgg56
 z37:=sizeOf56
 v37:=zeroValue56
 t46:=underlying207
 a46:=isAgg207
 z46:=sizeOf207
 v46:=zeroValue207
 t51:=underlying249
 a51:=isAgg249
 z51:=sizeOf249
 v51:=zeroValue249
 t53:=underlying263
 a53:=isAgg263
 z53:=sizeOf263
 v53:=zeroValue263
 t75:=underlying61
 a75:=isAgg61
 z75:=sizeOf61
 v75:=zeroValue61
 t76:=underlying62
 a76:=isAgg62
 z76:=sizeOf62
 v76:=zeroValue62
 t85:=underlying313
 a85:=isAgg313
 z85:=sizeOf313
 v85:=zeroValue313
 t127:=underlying146
 a127:=isAgg146
 z127:=sizeOf146
 v127:=zeroValue146
 t143:=underlying330
 a143:=isAgg330
 z143:=sizeOf330
 v143:=zeroValue330
 t145:=underlying332
 a145:=isAgg332
 z145:=sizeOf332
 v145:=zeroValue332
 t167:=underlying312
 a167:=isAgg312
 z167:=sizeOf312
 v167:=zeroValue312
 t168:=underlying315
 a168:=isAgg315
 z168:=sizeOf315
 v168:=zeroValue315
 t171:=underlying262
 a171:=isAgg262
 z171:=sizeOf262
 v171:=zeroValue262
 t173:=underlying266
 a173:=isAgg266
 z173:=sizeOf266
 v173:=zeroValue266
 t175:=underlying322
 a175:=isAgg322
 z175:=sizeOf322
 v175:=zeroValue322
 t210:=underlying325
 a210:=isAgg325
 z210:=sizeOf325
 v210:=zeroValue325
 t212:=underlying298
 a212:=isAgg298
 z212:=sizeOf298
 v212:=zeroValue298
 t213:=underlying299
 a213:=isAgg299
 z213:=sizeOf299
 t232:=underlying327
 a232:=isAgg327
 z232:=sizeOf327
 v232:=zeroValue327
 t233:=underlying328
 a233:=isAgg328
 z233:=sizeOf328
 v233:=zeroValue328
 g15:=by kernel_rfl
 g16:=by kernel_rfl
 g17:=by kernel_rfl
 g18:=by kernel_rfl
 g19:=by kernel_rfl
 t80:=underlying94
 a80:=isAgg94
 z80:=sizeOf94
 v80:=zeroValue94
 i0:=by kernel_rfl
 i2:=by kernel_rfl
 i3:=by kernel_rfl
 i4:=by kernel_rfl
 i5:=by kernel_rfl
 i9:=by kernel_rfl
 i20:=by kernel_rfl
 i21:=by kernel_rfl
 i37:=by kernel_rfl
 i46:=by kernel_rfl
 i51:=by kernel_rfl
 i53:=by kernel_rfl
 i75:=by kernel_rfl
 i76:=by kernel_rfl
 i80:=by kernel_rfl
 i85:=by kernel_rfl
 i127:=by kernel_rfl
 i143:=by kernel_rfl
 i145:=by kernel_rfl
 i167:=by kernel_rfl
 i168:=by kernel_rfl
 i171:=by kernel_rfl
 i173:=by kernel_rfl
 i175:=by kernel_rfl
 i210:=by kernel_rfl
 i212:=by kernel_rfl
 i232:=by kernel_rfl
 i233:=by kernel_rfl
 m15:=by kernel_rfl
 m16:=by kernel_rfl
 m17:=by kernel_rfl
 m18:=by kernel_rfl
 m19:=by kernel_rfl
 c0:=by kernel_rfl
 c2:=by kernel_rfl
 c3:=by kernel_rfl
 c4:=by kernel_rfl
 c5:=by kernel_rfl
 c9:=by kernel_rfl
 c20:=by kernel_rfl
 c21:=by kernel_rfl
 c37:=by kernel_rfl
 c46:=by kernel_rfl
 c51:=by kernel_rfl
 c53:=by kernel_rfl
 c75:=by kernel_rfl
 c76:=by kernel_rfl
 c80:=by kernel_rfl
 c85:=by kernel_rfl
 c127:=by kernel_rfl
 c143:=by kernel_rfl
 c145:=by kernel_rfl
 c167:=by kernel_rfl
 c168:=by kernel_rfl
 c171:=by kernel_rfl
 c173:=by kernel_rfl
 c175:=by kernel_rfl
 c210:=by kernel_rfl
 c212:=by kernel_rfl
 c213:=by kernel_rfl
 c232:=by kernel_rfl
 c233:=by kernel_rfl}
theorem pC:Go.Proofs.Lays.n155 Tryz.prog uR:={fD with
 mixed:=by kernel_rfl
 f138:=cS func136
 f143:=cS func137
 f154:=cS func89
 f155:=cS func52
 f165:=cS func40
 f166:=cS func15
 f169:=cS func26
 f195:=cS func187
 f197:=cS func138
 f217:=cS func112
 f218:=cS func188
 f219:=cS func66
 f224:=cS func114
 f225:=cS func113
 f240:=cS func39
 f241:=cS func77
 f260:=cS func189
 f266:=cS func156
 f267:=cS func115
 f276:=cS func76
 f277:=cS func125
 f314:=cS func157
 t70:=underlying55
 a70:=isAgg55
 z70:=sizeOf55
 v70:=zeroValue55
 t72:=underlying58
 a72:=isAgg58
 z72:=sizeOf58
 v72:=zeroValue58
 t105:=underlying233
 a105:=isAgg233
 z105:=sizeOf233
 v105:=zeroValue233
 t119:=underlying305
 a119:=isAgg305
 z119:=sizeOf305
 t138:=underlying307
 a138:=isAgg307
 z138:=sizeOf307
 v138:=zeroValue307
 t139:=underlying308
 a139:=isAgg308
 z139:=sizeOf308
 v139:=zeroValue308
 t146:=underlying250
 a146:=isAgg250
 z146:=sizeOf250
 v146:=zeroValue250
 t164:=underlying166
 a164:=isAgg166
 z164:=sizeOf166
 v164:=zeroValue166
 g1:=by kernel_rfl
 g3:=by kernel_rfl
 g4:=by kernel_rfl}
theorem J6:Go.Proofs.LaysM.n171 Tryz.prog uR:={fD with
 mixed:=by kernel_rfl
 m19:=by kernel_rfl}
theorem wp:Go.Proofs.Lays.n190 Tryz.prog uR:={fD with
 mixed:=by kernel_rfl
 f125:=cS func129
 f128:=cS func181
 f190:=cS func91
 f258:=cS func140
 f302:=cS func190
 f303:=cS func191
 f304:=cS func192
 f305:=cS func193
 f306:=cS func194
 f307:=cS func195
 f308:=cS func196
 f309:=cS func197
 f310:=cS func198
 f329:=cS func226
 f330:=cS func227
 f333:=cS func230
 f334:=cS func231
 f335:=cS func232
 f336:=cS func233
 f344:=cS func248
 t31:=underlying59
 a31:=isAgg59
 z31:=sizeOf59
 v31:=zeroValue59
 t131:=underlying208
 a131:=isAgg208
 z131:=sizeOf208
 v131:=zeroValue208
 t182:=underlying269
 a182:=isAgg269
 z182:=sizeOf269
 v182:=zeroValue269
 t183:=underlying270
 a183:=isAgg270
 z183:=sizeOf270
 v183:=zeroValue270
 t218:=underlying300
 a218:=isAgg300
 z218:=sizeOf300
 v218:=zeroValue300
 t222:=underlying178
 a222:=isAgg178
 z222:=sizeOf178
 v222:=zeroValue178
 t228:=underlying318
 a228:=isAgg318
 z228:=sizeOf318
 v228:=zeroValue318
 t229:=underlying319
 a229:=isAgg319
 z229:=sizeOf319
 v229:=zeroValue319}
theorem BE:Go.Proofs.Lays.n156 Tryz.prog uR:={pC,fD,wp with
 mixed:=by kernel_rfl
 f156:=cS func16
 v164:=zeroValue166}
theorem L3:Go.Proofs.Lays.n145 Tryz.prog uR:={pC,fD with
 mixed:=by kernel_rfl
 f145:=cS func11
 f220:=cS func32
 t59:=underlying48
 a59:=isAgg48
 z59:=sizeOf48
 v59:=zeroValue48
 g1:=by kernel_rfl}
theorem pJ:Go.Proofs.Lays.n103 Tryz.prog uR:={fD with
 mixed:=by kernel_rfl
 f103:=cS func61
 f206:=cS func135
 f210:=cS func100
 t24:=underlying149
 a24:=isAgg149
 z24:=sizeOf149
 v24:=zeroValue149}
theorem JB:Go.Proofs.Lays.n104 Tryz.prog uR:={fD,pJ with
 mixed:=by kernel_rfl
 f104:=cS func67
 f207:=cS func158
 f211:=cS func116}
theorem Gc:Go.Proofs.Lays.n137 Tryz.prog uR:={pC,fD with
 mixed:=by kernel_rfl
 f137:=cS func219
 v9:=zeroValue9}
theorem IH:Go.Proofs.Lays.n101 Tryz.prog uR:={pJ,fD,Gc with
 mixed:=by kernel_rfl
 f101:=cS func51
 f208:=cS func88}
theorem Mu:Go.Proofs.Lays.n99 Tryz.prog uR:={pJ,fD,Gc with
 mixed:=by kernel_rfl
 f99:=cS func118}
def DS:Go.Shelf.Ren:=⟨λ|6=>80|15=>129|14=>128|28=>181|29=>182|20=>173|21=>174|22=>175|23=>176|24=>177|25=>178|26=>179|27=>180|46=>225|47=>226|48=>227|49=>228|50=>229|57=>247|n=>n,λ|22=>122|24=>45|25=>127|3=>3|39=>207|0=>0|53=>249|55=>263|4=>4|46=>270|45=>269|50=>208|5=>5|9=>9|66=>300|70=>178|76=>318|77=>319|n=>n,λ|n=>n⟩
theorem Kw:Go.Proofs.SlLaysF0.n6 Tryz.prog DS:={
 mixed:=by kernel_rfl
 f6:=⟨Tryz.f80.name,by decide,cS func80⟩
 f14:=⟨Tryz.f128.name,by decide,cS func128⟩
 f15:=cS func129
 f20:=⟨Tryz.f173.name,by decide,cS func173⟩
 f21:=⟨Tryz.f174.name,by decide,cS func174⟩
 f22:=⟨Tryz.f175.name,by decide,cS func175⟩
 f23:=⟨Tryz.f176.name,by decide,cS func176⟩
 f24:=⟨Tryz.f177.name,by decide,cS func177⟩
 f25:=⟨Tryz.f178.name,by decide,cS func178⟩
 f26:=⟨Tryz.f179.name,by decide,cS func179⟩
 f27:=⟨Tryz.f180.name,by decide,cS func180⟩
 f28:=cS func181
 f29:=cS func182
 f46:=⟨Tryz.f225.name,by decide,cS func225⟩
 f47:=cS func226
 f48:=cS func227
 f49:=⟨Tryz.f228.name,by decide,cS func228⟩
 f50:=⟨Tryz.f229.name,by decide,cS func229⟩
 f57:=⟨Tryz.f247.name,by decide,cS func247⟩
 t0:=underlying0
 a0:=isAgg0
 z0:=sizeOf0
 v0:=zeroValue0
 t3:=underlying3
 a3:=isAgg3
 z3:=sizeOf3
 v3:=zeroValue3
 t4:=underlying4
 a4:=isAgg4
 z4:=sizeOf4
 v4:=zeroValue4
 t5:=underlying5
 a5:=isAgg5
 z5:=sizeOf5
 v5:=zeroValue5
 t9:=underlying9
 a9:=isAgg9
 z9:=sizeOf9
 v9:=zeroValue9
 t22:=underlying122
 a22:=isAgg122
 z22:=sizeOf122
 v22:=zeroValue122
 t25:=underlying127
 a25:=isAgg127
 z25:=sizeOf127
 v25:=zeroValue127
 t39:=underlying207
 a39:=isAgg207
 z39:=sizeOf207
 v39:=zeroValue207
 t45:=underlying269
 a45:=isAgg269
 z45:=sizeOf269
 v45:=zeroValue269
 t46:=underlying270
 a46:=isAgg270
 z46:=sizeOf270
 v46:=zeroValue270
 t50:=underlying208
 a50:=isAgg208
 z50:=sizeOf208
 v50:=zeroValue208
 t53:=underlying249
 a53:=isAgg249
 z53:=sizeOf249
 v53:=zeroValue249
 t55:=underlying263
 a55:=isAgg263
 z55:=sizeOf263
 v55:=zeroValue263
 t66:=underlying300
 a66:=isAgg300
 z66:=sizeOf300
 v66:=zeroValue300
 t70:=underlying178
 a70:=isAgg178
 z70:=sizeOf178
 v70:=zeroValue178
 t76:=underlying318
 a76:=isAgg318
 z76:=sizeOf318
 v76:=zeroValue318
 t77:=underlying319
 a77:=isAgg319
 z77:=sizeOf319
 v77:=zeroValue319}
open Go Go.RowKit Go.Proofs.YtbhokokpplmigaaGreatDoor.Ev
abbrev tv(l:bn):Value:=.string ⟨⟨l⟩⟩
def oI(w:World):Prop:=∃m,w.cell? ⟨0,0,none⟩=some (.int .i64 m)
def n9(w:World):Prop:=Lib.TabIs Tryz.prog w "internal/strconv.uint64pow10" .u64 Lib.pow10Tab
def hasErr(g:Nat)(w:World):Prop:=∃ev,w.cell? ⟨g,0,none⟩=some ev/\(ev=.nilIface\/∃te pe,ev=.iface te pe)
theorem K8:Builder.Extra Tryz.prog uR:={
 sizeBuilder:=bm
 liesBuilder:=bm
 t5:=Tryz.underlying5
 a5:=Tryz.isAgg5
 z5:=Tryz.sizeOf5
 v5:=Tryz.zeroValue5
 infoByte:=bm
 cellsByte:=bm
 sizeByte:=bm
 neB5:=by decide}
theorem K9:Builder.Extra Tryz.prog uR:=K8
theorem xq(w:World)(n:Nat):Below w.heap.size w (w.drewN n):=⟨rfl,rfl,rfl,av _,λ_ _=>rfl⟩
theorem iq(l:bn):(⟨⟨l⟩⟩:ByteArray).size=l.length:=rfl
theorem Dv{s sep:bn}{w:World}(hm:oI w)(hs:s.length<=1000000):
 Calls Tryz.prog 11 #[tv s,tv sep] w λe w'=>e=.returned (.tuple #[tv (Lib.cut s sep).1,tv (Lib.cut s sep).2.1,.bool (Lib.cut s sep).2.2])/\Below w.heap.size w w':=by
 obtain⟨m,hm⟩:=hm;refine(Any.strings_Cut L3 ⟨⟨s⟩⟩ ⟨⟨sep⟩⟩ m w (by rw[iq];omega) hm).mono ?_;rintro e w' ⟨rfl,n,rfl⟩;exact⟨rfl,xq w n⟩
theorem zK{s c new:bn}{w:World}(hm:oI w)(hs:s.length<=100000)(hc1:c.length=1)(hn:new.length<=100)(hcnt:Lib.countB ⟨⟨s⟩⟩ ⟨⟨c⟩⟩<=s.length):
 Calls Tryz.prog 52 #[tv s,tv c,tv new] w λe w'=>e=.returned (tv (Lib.replaceAll s c new))/\Below w.heap.size w w':=by
 obtain⟨m,hm⟩:=hm;have hmul:Lib.countB ⟨⟨s⟩⟩ ⟨⟨c⟩⟩*new.length<=100000*100:=Nat.mul_le_mul bj hn;exact Any.strings_ReplaceAll pC K8 ⟨⟨s⟩⟩ ⟨⟨c⟩⟩ ⟨⟨new⟩⟩ m w (by rw[iq];omega) hm (by rw[iq];omega) (by rw[iq,iq];omega)
theorem zR{bk o c:Nat}{xs:List bn}{sep:bn}{w:World}(hcells:∀(j:Nat) x,xs[j]? =some x->w.cell? ⟨bk,o+j,none⟩=some (tv x))(hbk:bk<w.heap.size)(hN:xs.length<=100)(hcap:xs.length<=c)(hlen:(Lib.join xs sep).length<=1000000):
 Calls Tryz.prog 16 #[.slice (some ⟨bk,o,none⟩) xs.length c,tv sep] w λe w'=>e=.returned (tv (Lib.join xs sep))/\Below w.heap.size w w':=by
 have hmap:(xs.map λx=>(⟨⟨x⟩⟩:ByteArray)).map (·.data.toList)=xs:=by
  rw[List.map_map];exact List.map_id _
 have:=Any.strings_Join BE K9 bk o c (xs.map λx=>(⟨⟨x⟩⟩:ByteArray)) ⟨⟨sep⟩⟩ w (λj x hx=>by
  rw[aV,aa]at hx;obtain⟨y,hy,rfl⟩:=hx;exact hcells j y hy) hbk (by rw[ao];omega) (by rw[ao];omega) (by rw[hmap];show(Lib.join xs sep).length<=_;omega)
 rw[hmap,ao]at this;exact this
theorem Dz{s p:bn}{w:World}:Calls Tryz.prog 118 #[tv s,tv p] w λe w'=>e=.returned (.bool (Lib.hasPrefix s p))/\Below w.heap.size w w':=
 (Any.strings_HasPrefix Mu ⟨⟨s⟩⟩ ⟨⟨p⟩⟩ w).mono λ_ _ ⟨h1,h2⟩=>⟨h1,h2▸Below.refl _ _⟩
theorem zJ{s p:bn}{w:World}:Calls Tryz.prog 51 #[tv s,tv p] w λe w'=>e=.returned (tv (Lib.trimPrefix s p))/\Below w.heap.size w w':=
 (Any.strings_TrimPrefix IH ⟨⟨s⟩⟩ ⟨⟨p⟩⟩ w).mono λ_ _ ⟨h1,h2⟩=>⟨h1,h2▸Below.refl _ _⟩
theorem An{s p:bn}{w:World}:Calls Tryz.prog 61 #[tv s,tv p] w λe w'=>e=.returned (.tuple #[tv (Lib.trimPrefix s p),.bool (Lib.hasPrefix s p)])/\Below w.heap.size w w':=
 (Any.strings_CutPrefix pJ ⟨⟨s⟩⟩ ⟨⟨p⟩⟩ w).mono λ_ _ ⟨h1,h2⟩=>⟨h1,h2▸Below.refl _ _⟩
theorem AN{s p:bn}{w:World}(hs:s.length<=1000000):Calls Tryz.prog 67 #[tv s,tv p] w λe w'=>e=.returned (.tuple #[tv (Lib.trimSuffix s p),.bool (Lib.hasSuffix s p)])/\Below w.heap.size w w':=
 (Any.strings_CutSuffix JB ⟨⟨s⟩⟩ ⟨⟨p⟩⟩ w (by rw[iq];omega)).mono λ_ _ ⟨h1,h2⟩=>⟨h1,h2▸Below.refl _ _⟩
theorem EV{s:bn}{c:Int}{w:World}:Calls Tryz.prog 219 #[tv s,.int .u8 c] w λe w'=>e=.returned (.int .i64 (Lib.indexByte s c.toNat.toUInt8))/\Below w.heap.size w w':=
 (Any.strings_IndexByte Gc ⟨⟨s⟩⟩ c w).mono λ_ _ ⟨h1,h2⟩=>⟨h1,h2▸Below.refl _ _⟩
theorem Be{n:Int}(h0: -9223372036854775808<=n)(h1:n<=9223372036854775807){w:World}(ht:n9 w):Calls Tryz.prog 44 #[.int .i64 n] w λe w'=>e=.returned (tv (Lib.itoa n))/\Below w.heap.size w w':=by
 refine(Any.strconv_Itoa J6 n h0 h1 w ht).mono ?_;rintro e w' ⟨rfl,k,os,rfl⟩;exact⟨rfl,Lib.below_grow _ w (av _) k os⟩
theorem J1{s:bn}{z:Int}(hs:s.length<=1000000)(h:Lib.atoiAll s=.ok z){w:World}:Calls Tryz.prog 159 #[tv s] w λe w'=>e=.returned (.tuple #[.int .i64 z,.nilIface])/\Below w.heap.size w w':=by
 refine(Any.strconv_Atoi_ok fD ⟨⟨s⟩⟩ (by rw[iq];omega) z h w).mono ?_;rintro e w' ⟨rfl,rfl|⟨t,rfl⟩⟩
 .exact⟨rfl,Below.refl _ _⟩
 .exact⟨rfl,Lib.bytesWorld_below w _ t⟩
theorem Gp{s:bn}(hs:s.length<=1000000)(h0:∀z,Lib.atoiAll s≠.ok z)(h9:Lib.atoiAll s≠.range){w:World}(he:hasErr 5 w):Calls Tryz.prog 159 #[tv s] w λe w'=>∃N o,e=.returned (.tuple #[.int .i64 0,.iface 315 (.pointer (some ⟨N,0,none⟩))])/\w.heap.size<=N/\w'.heap[N]? =some o/\Below w.heap.size w w':=by
 obtain⟨ev,h1,h2⟩:=he;refine(Any.strconv_Atoi_syntax fD ⟨⟨s⟩⟩ (by rw[iq];omega) (show Lib.atoiAll s=_ by
  cases e:Lib.atoiAll s with
  |ok z=>exact absurd e (h0 z)
  |range=>exact absurd e h9
  |_=>rfl) ev w h1 h2).mono ?_
 rintro e w' ⟨N,rfl,h3,h4,h5⟩;exact⟨N,_,rfl,h3,h4,h5⟩
theorem E3{s:bn}(hs:s.length<=1000000)(h:Lib.atoiAll s=.range){w:World}(he:hasErr 6 w):Calls Tryz.prog 159 #[tv s] w λe w'=>∃N o,e=.returned (.tuple #[.int .i64 (Lib.atoiSat s),.iface 315 (.pointer (some ⟨N,0,none⟩))])/\w.heap.size<=N/\w'.heap[N]? =some o/\Below w.heap.size w w':=by
 obtain⟨ev,h1,h2⟩:=he;refine(Any.strconv_Atoi_range fD ⟨⟨s⟩⟩ (by rw[iq];omega) h ev w h1 h2).mono ?_;rintro e w' ⟨N,rfl,h3,h4,h5⟩;exact⟨N,_,rfl,h3,h4,h5⟩
def WOk(w:World):Prop:=oI w/\n9 w/\hasErr 5 w/\hasErr 6 w
theorem PE:Tryz.prog.globalNamed "internal/strconv.uint64pow10" =some 2:=bm
theorem hasErr.same{g:Nat}{w w':World}(h:hasErr g w)(h0:w'.heap[g]? =w.heap[g]?):hasErr g w':=by
 obtain⟨ev,h1,h2⟩:=h;exact⟨ev,(World.cell?_of_block (w:=w) h0).trans h1,h2⟩
theorem WOk.same{w w':World}(h:WOk w)(h0:w'.heap[0]? =w.heap[0]?)(h2:w'.heap[2]? =w.heap[2]?)(h3:w'.heap[5]? =w.heap[5]?)(h4:w'.heap[6]? =w.heap[6]?):WOk w':=by
 refine⟨?_,?_,h.2.2.1.same h3,h.2.2.2.same h4⟩
 .obtain⟨m,hm⟩:=h.1;exact⟨m,(World.cell?_of_block (w:=w) h0).trans hm⟩
 .have:=h.2.1;unfold n9 Lib.TabIs World.var? at this⊢;rw[PE]at this⊢;simp only[ay]at this⊢;rw[h2];exact this
def Ci(X:Nat->Prop)(w0:World)(_:Ev.Ren)(_:Nat->Prop):Prop:=X 0/\X 2/\X 5/\X 6/\WOk w0
def HW:List bn:=[[],[35,68,73,86,47,48,33],[35,86,65,76,85,69,33],[35,82,69,70,33],[35,78,65,77,69,63],[35,78,85,77,33],[35,78,47,65],[35,83,80,73,76,76,33],[35,67,73,82,67,33],[35,67,65,76,67,33]]
def pm:Glob:=Glob.leaf.set 1 (strCells HW)
def pn:Env where
 tab:=pm
 inv:=Ci
 ext:=λh _ _=>h
 base:=λ⟨h1,h2,h3,h4,h5⟩ hx hw _=>⟨hx _ h1,hx _ h2,hx _ h3,hx _ h4,h5.same (hw _ h1) (hw _ h2) (hw _ h3) (hw _ h4)⟩
instance:AskOk Tryz.prog pn:=AskOk.quietly rfl
instance:Mute pn.tab:=⟨rfl⟩
section
variable {Γ:Env}{X:Nat->Prop}{w0:World}{θ:Ev.Ren}{K:Nat->Prop}{hp:Hp}{w:World}
theorem rY(hi:Ci X w0 θ K)(hr:Rep Γ X w0 θ K hp w):WOk w:=hi.2.2.2.2.same (hr.kept _ hi.1) (hr.kept _ hi.2.1) (hr.kept _ hi.2.2.1) (hr.kept _ hi.2.2.2.1)
theorem eS(hr:Rep Γ X w0 θ K hp w){f:FuncId}{args:Array Value}{v:SV}{outs:List Out}(ho:ig hp v=some outs)(hv:v.ok K)(h:Calls Tryz.prog f args w λe w'=>e=.returned (conc θ v)/\Below w.heap.size w w'):CallsIn Fence.wide 0 Tryz.prog f args w (CPost Γ X w0 θ K hp.next outs):=by
 obtain rfl:=ab ho;exact AF hr hv h
theorem Rep.named(hr:Rep Γ X w0 θ K hp w){w':World}(hb:Below w.heap.size w w')(N:Nat):Rep Γ X w0 (θ.bind hp.next N 0) (hJ K hp.next) ⟨hp.objs,hp.next+1⟩ w':=by
 have hE:Ext K θ (θ.bind hp.next N 0):=Ren.bind_ext (hr.next _ (av _));have hr':=hr.behind hb;refine⟨hr'.os,hr'.tape,hr'.output,hr'.size,hr'.kept,hr'.low,hr'.glob,λb o h=>?_,λb b' o o' h h' e=>?_,λi hi hk=>?_,Γ.ext hr.inv hE bW⟩
 .obtain⟨k1,k2,k3,ob,k4,k5⟩:=hr'.obj b o h;have e:=hE.blk b k1;exact⟨.inl k1,by rw[e];exact k2,AObj.ok_mono bW _ k3,ob,by rw[e];exact k4,jW hE k3 k5⟩
 .rw[hE.blk b (hr.obj b o h).1,hE.blk b' (hr.obj b' o' h').1]at e;exact hr.inj b b' o o' h h' e
 .have hi:hp.next+1<=i:=hi;rcases hk with hk|rfl
  .exact hr.next i bj hk
  .omega
theorem wP(hr:Rep Γ X w0 θ K hp w){f:FuncId}{args:Array Value}{z:Int}{outs:List Out}(ho:ig ⟨hp.objs,hp.next+1⟩ (.tuple [i6V z,.iface 315 (.ptr hp.next 0)])=some outs)
 (h:Calls Tryz.prog f args w λe w'=>∃N o,e=.returned (.tuple #[.int .i64 z,.iface 315 (.pointer (some ⟨N,0,none⟩))])/\w.heap.size<=N/\w'.heap[N]? =some o/\Below w.heap.size w w'):CallsIn Fence.wide 0 Tryz.prog f args w (CPost Γ X w0 θ K hp.next outs):=by
 obtain rfl:=ab ho;refine callsIn_wide.2 (h.mono ?_);rintro e w' ⟨N,o,rfl,hN,hO,hb⟩;refine⟨_,aQ _,θ.bind hp.next N 0,hJ K hp.next,⟨Ren.bind_ext (hr.next _ (av _)),bW,cT,Nat.le_succ _⟩,?_,⟨trivial,.inr rfl,trivial⟩,Rep.named hr hb N⟩;simp[conc,concL,i6V,Ren.bind]
theorem y7{g:bn->bn->Option SV}{f:FuncId}{args:List SV}{outs:List Out}(h:mM g args hp=some outs)(hr:Rep Γ X w0 θ K hp w)
 (hg:∀s p v,g s p=some v->v.ok K/\Calls Tryz.prog f #[tv s,tv p] w λe w'=>e=.returned (conc θ v)/\Below w.heap.size w w'):CallsIn Fence.wide 0 Tryz.prog f (concL θ args).toArray w (CPost Γ X w0 θ K hp.next outs):=by
 unfold mM at h;split at h
 .rename_i s p;split at h
  .rename_i v hv;exact eS hr h (hg s p v hv).1 (hg s p v hv).2
  .cases h
 .cases h
theorem mY{α:Type}{b:Bool}{x y:α}(h:(bif b then some x else none)=some y):b=true/\x=y:=by
 cases b with
 |false=>cases h
 |true=>exact⟨rfl,ab h⟩
theorem N9(hm:oI w)(s p:bn)(v:SV)(h:Ib s p=some v):v.ok K/\Calls Tryz.prog 11 #[tv s,tv p] w λe w'=>e=.returned (conc θ v)/\Below w.heap.size w w':=by
 obtain⟨h1,rfl⟩:=mY h;exact⟨⟨trivial,trivial,trivial,trivial⟩,Dv hm (aG h1)⟩
theorem ON(s p:bn)(v:SV)(h:Lp s p=some v):v.ok K/\Calls Tryz.prog 118 #[tv s,tv p] w λe w'=>e=.returned (conc θ v)/\Below w.heap.size w w':=by
 obtain rfl:=ab h;exact⟨trivial,Dz⟩
theorem MP(s p:bn)(v:SV)(h:Fb s p=some v):v.ok K/\Calls Tryz.prog 61 #[tv s,tv p] w λe w'=>e=.returned (conc θ v)/\Below w.heap.size w w':=by
 obtain rfl:=ab h;exact⟨⟨trivial,trivial,trivial⟩,An⟩
theorem MV(s p:bn)(v:SV)(h:G7 s p=some v):v.ok K/\Calls Tryz.prog 51 #[tv s,tv p] w λe w'=>e=.returned (conc θ v)/\Below w.heap.size w w':=by
 obtain rfl:=ab h;exact⟨trivial,zJ⟩
theorem M5(s p:bn)(v:SV)(h:xV s p=some v):v.ok K/\Calls Tryz.prog 67 #[tv s,tv p] w λe w'=>e=.returned (conc θ v)/\Below w.heap.size w w':=by
 obtain⟨h1,rfl⟩:=mY h;exact⟨⟨trivial,trivial,trivial⟩,AN (aG h1)⟩
theorem Sf{args:List SV}{outs:List Out}(h:ixW args hp=some outs)(hr:Rep Γ X w0 θ K hp w):CallsIn Fence.wide 0 Tryz.prog 219 (concL θ args).toArray w (CPost Γ X w0 θ K hp.next outs):=by
 unfold ixW at h;split at h
 .exact eS hr h trivial EV
 .cases h
theorem NK{args:List SV}{outs:List Out}(h:sU args hp=some outs)(hr:Rep Γ X w0 θ K hp w)(ht:n9 w):CallsIn Fence.wide 0 Tryz.prog 44 (concL θ args).toArray w (CPost Γ X w0 θ K hp.next outs):=by
 unfold sU at h;split at h
 .rename_i z;cases hc:decide (-9223372036854775808<=z)&&decide (z<=9223372036854775807)with
  |false=>rw[hc]at h;cases h
  |true=>
   rw[hc,bf]at h;rw[a8,ba,ba]at hc;exact eS hr h trivial (Be hc.1 hc.2 ht)
 .cases h
theorem LE{args:List SV}{outs:List Out}(h:mN args hp=some outs)(hr:Rep Γ X w0 θ K hp w)(hw:WOk w):CallsIn Fence.wide 0 Tryz.prog 159 (concL θ args).toArray w (CPost Γ X w0 θ K hp.next outs):=by
 unfold mN at h;split at h
 .rename_i s;cases hc:Nat.ble s.length 1000000 with
  |false=>rw[hc]at h;cases h
  |true=>
   rw[hc,bf]at h;have hl:=aG hc;split at h
   .rename_i z e;exact eS hr h ⟨trivial,trivial,trivial⟩ (J1 hl e)
   .rename_i e;exact wP hr h (E3 hl e hw.2.2.2)
   .rename_i e1 e2;exact wP hr h (Gp hl e1 e2 hw.2.2.1)
 .cases h
end
section
variable {Γ:Env}{X:Nat->Prop}{w0:World}{θ:Ev.Ren}{K:Nat->Prop}{hp:Hp}{w:World}
theorem Nu{args:List SV}{outs:List Out}(h:tp args hp=some outs)(hr:Rep Γ X w0 θ K hp w)(hm:oI w):CallsIn Fence.wide 0 Tryz.prog 52 (concL θ args).toArray w (CPost Γ X w0 θ K hp.next outs):=by
 unfold tp at h;split at h
 .rename_i s c n;cases hc:Nat.ble s.length 100000&&(Nat.beq c.length 1&&Nat.ble n.length 100)with
  |false=>rw[hc]at h;cases h
  |true=>
   rw[hc,bf]at h;rw[a8,a8]at hc;have h1:=aG hc.1;have h2:=aj hc.2.1;have h3:=aG hc.2.2;refine eS hr h trivial (zK hm h1 h2 h3 ?_);obtain⟨x,rfl⟩:∃x,c=[x]:=by
    match c,h2 with
    |[x],_=>exact⟨x,rfl⟩
   exact ft.count_le_len s.length s (av _)
 .cases h
theorem ua{v:SV}{e:TypeId}{cs:List SV}(h:lsC v hp e=some cs)(hr:Rep Γ X w0 θ K hp w):(v=.lit (.slice none 0 0)/\cs=[])\/∃bk cap cur fr,conc θ v=.slice (some ⟨bk,0,none⟩) cs.length cap/\cs.length<=cap/\w.heap[bk]? =some (.cells cur e fr)/\(∀(j:Nat) x,cs[j]? =some x->cur[j]? =some (conc θ x)):=by
 unfold lsC at h;split at h
 .exact .inl ⟨rfl,(ab h).symm⟩
 .rename_i b n c;split at h
  .rename_i l e' hb;obtain⟨h1,rfl⟩:=mY h;simp only[a8]at h1;obtain⟨e1,e2,e3,_⟩:=h1;obtain rfl:=aj e1;have e2:=aj e2;have e3:=aG e3;obtain⟨_,_,_,ob,k4,fr,rfl,_⟩:=hr.obj b _ hb;have hl:(l.take n).length=n:=by rw[aL];omega
   refine .inr ⟨θ.blk b,c,_,fr,by rw[hl];rfl,by omega,k4,λj x hx=>?_⟩;have hj:j<n:=by have:=(List.getElem?_eq_some_iff.1 hx).1;omega
   rw[List.getElem?_take_of_lt hj]at hx;rw[aP,cV,aV,hx];rfl
  .cases h
 .rename_i b n k b';split at h
  .rename_i l e' k' b2 size hb;obtain⟨h1,rfl⟩:=mY h;simp only[a8]at h1;obtain⟨e1,e2,e3,e4,e5,e6,e7⟩:=h1;obtain rfl:=aj e1;have e4:=aG e4;have e5:=aG e5;obtain⟨_,_,_,ob,k4,fr,ex,rfl,_⟩:=hr.obj b _ hb;have hl:(l.take n).length=n:=by rw[aL];omega
   refine .inr ⟨θ.blk b,k+θ.cap b',_,fr,by rw[hl];rfl,by omega,k4,λj x hx=>?_⟩;have hj:j<n:=by have:=(List.getElem?_eq_some_iff.1 hx).1;omega
   rw[List.getElem?_take_of_lt hj]at hx;rw[aP,cV,aU (by rw[ao];exact(List.getElem?_eq_some_iff.1 hx).1),aV,hx];rfl
  .cases h
 .cases h
theorem F0:∀{l:List SV} {L:List bn},txs l=some L->l=L.map λs=>SV.lit (tv s)
 |[],L,h=>by obtain rfl:=ab h;rfl
 | .lit (.string ⟨⟨s⟩⟩)::r,L,h=>by
   have h:(txs r).map (λl=>s::l)=some L:=h;rw[aa]at h;obtain⟨l',h1,rfl⟩:=h;rw[F0 h1];rfl
theorem Nr{args:List SV}{outs:List Out}(h:tu args hp=some outs)(hr:Rep Γ X w0 θ K hp w):CallsIn Fence.wide 0 Tryz.prog 16 (concL θ args).toArray w (CPost Γ X w0 θ K hp.next outs):=by
 unfold tu at h;split at h
 .rename_i v p;split at h
  .rename_i L hL;rw[aJ]at hL;obtain⟨cs,h1,h2⟩:=hL;obtain rfl:=F0 h2;cases hc:Nat.ble L.length 100&&Nat.ble (Lib.join L p).length 1000000 with
   |false=>rw[hc]at h;cases h
   |true=>
    rw[hc,bf]at h;rw[a8]at hc;have h3:=aG hc.1;have h4:=aG hc.2;rcases ua h1 hr with⟨rfl,e⟩|⟨bk,cap,cur,fr,e1,e2,e3,e4⟩
    .obtain rfl:=List.map_eq_nil_iff.1 e;refine eS hr h trivial ((Any.strings_Join_none BE K9 none 0 ⟨⟨p⟩⟩ w).mono ?_);rintro e' w' ⟨rfl,rfl⟩;exact⟨rfl,Below.refl _ _⟩
    .rw[ao]at e1 e2;refine eS hr h trivial ?_;simp only[concL,e1];exact zR (o:=0) (λj x hx=>by
      have:=e4 j (.lit (tv x)) (by rw[aV,hx];rfl);simp only[World.cell?,e3,Option.isSome_none,aA,if_false,aX];exact this) (Array.getElem?_eq_some_iff.1 e3).1 h3 e2 h4
  .cases h
 .cases h
end
set_option maxHeartbeats 1000000 in
set_option maxRecDepth 100000 in
theorem Id(b:Nat)(w:World)(v:Value)(fr:Nat×Nat)(hb:w.heap[b]? =some (.cells #[.pointer none,v] 58 fr))(hfr:frOk fr 2):
 Calls Tryz.prog 39 #[.pointer (some ⟨b,0,none⟩)] w λq w'=>q=.returned (.tuple #[])/\w'=ef w b (.cells #[.pointer (some ⟨b,0,none⟩),v] 58 fr):=by
 have h0:w.cell? ⟨b,0,none⟩=some (.pointer none):=by simp[World.cell?,hb]
 have hsh:w.shape? b=some (58,2):=by simp[World.shape?,hb]
 have hfz:w.frozen? ⟨b,0,none⟩=false:=by
  have:=hfr.at 0 bj;simp only[World.frozen?,hb]
  simpa using this
 have hset:w.setCell ⟨b,0,none⟩ (.pointer (some ⟨b,0,none⟩))=ef w b (.cells #[.pointer (some ⟨b,0,none⟩),v] 58 fr):=by
  rw[nu hb];rfl
 obtain⟨j,hj,hjs⟩:∃j,Tryz.prog.info? 58=some j/\j.size=2:=⟨_,rfl,rfl⟩;have hlies:liesAt Tryz.prog Tryz.prog.depth 58 (2/Tryz.prog.cellsOf 58) 0 58 1=true:=bm;have hp1:Tryz.prog.underlying 55=some (.pointer 58):=bm;have hp2:Tryz.prog.underlying 166=some .unsafePointer:=bm
 go_enter Tryz.func39,Tryz.ntmps39
 go_wp2
 rw[Lib.run_to_unsafe w ⟨b,0,none⟩ hp1 hp2 hj (by rw[hjs];decide) hsh (Nat.zero_lt_succ 1)];simp only[Result.andThen];rw[Oper.upon_value]
 go_wp2
 rw[run_callFunc_extern Tryz.func76 bm bm bm (e:=Extern.AbiNoEscape.same) bm];rw[Lib.run_noEscape];simp only[Result.andThen];rw[Oper.upon_value]
 go_wp2
 rw[Lib.run_from_unsafe w ⟨b,0,none⟩ hp2 hp1 hj hsh hlies];simp only[Result.andThen];rw[Oper.upon_value]
 go_wp2
 go_end0
 first|exact⟨rfl,rfl⟩|exact⟨rfl,hset⟩
set_option maxHeartbeats 1000000 in
set_option maxRecDepth 100000 in
theorem Em(b g cap:Nat)(p:Value)(l:bn)(cur:List Value)(w:World)(fr fr2:Nat×Nat)(h0:l≠[])(hlc:l.length<=cap)(hln:l.length<=1000000)(hb:w.heap[b]? =some (.cells #[p,.slice (some ⟨g,0,none⟩) l.length cap] 58 fr))(hg:w.heap[g]? =some (.cells cur.toArray 5 fr2))(hlen:l.length<=cur.length)
 (hcell:∀(j:Nat) (x:UInt8),l[j]? =some x->cur[j]? =some (Value.int .u8 x.toNat)):
 Calls Tryz.prog 26 #[.pointer (some ⟨b,0,none⟩)] w λq w'=>q=.returned (.string ⟨l.toArray⟩)/\w'=w.drew.freeze ⟨g,0,none⟩ l.length:=by
 have hl0:l.length≠0:=by simpa using h0
 have c1:w.drew.cell? ⟨b,1,none⟩=some (.slice (some ⟨g,0,none⟩) l.length cap):=by
  have:w.drew.heap[b]? =some (.cells #[p,.slice (some ⟨g,0,none⟩) l.length cap] 58 fr):=hb;simp[World.cell?,this]
 have hSD:(Builtin.unsafeSliceData_ #[56] 146 #[.slice (some ⟨g,0,none⟩) l.length cap]).run Tryz.prog w.drew=.ok (.pointer (some ⟨g,0,none⟩)) w.drew:=
  Lib.run_unsafeSliceData_row _ _ _ _ _ _ bj
 have hg':w.drew.heap[g]? =some (.cells cur.toArray 5 fr2):=hg;have hUS:(Builtin.unsafeString_ #[146,3] 9 #[.pointer (some ⟨g,0,none⟩),.int .i64 l.length]).run Tryz.prog w.drew=.ok (.string ⟨l.toArray⟩) (w.drew.freeze ⟨g,0,none⟩ l.length):=by
  refine Lib.run_unsafeString_row w.drew 146 3 9 5 bm bm g cur.length (by simp[World.shape?,hg']) l h0 hlen bj ?_;intro j x hx;have:=hcell j x hx;rw[dW,aX];simp[World.cell?,hg',this]
 go_enter Tryz.func26,Tryz.ntmps26
 go_wp2
 go_region
 all_goals(go_wp2;go_ret;exact⟨rfl,rfl⟩)
theorem Rep.forget{Γ:Env}{X:Nat->Prop}{w0:World}{θ:Ev.Ren}{K:Nat->Prop}{hp:Hp}{w w':World}{g:Nat}{o:AObj}(hr:Rep Γ X w0 θ K hp w)(hg:hp.objs.get g=some o)(h1:w'.os=w.os)(h2:w'.tape=w.tape)(h3:w'.output=w.output)(h4:w'.heap.size=w.heap.size)(h5:∀k,k≠θ.blk g->w'.heap[k]? =w.heap[k]?):
 Rep Γ X w0 θ K ⟨hp.objs.put g none,hp.next⟩ w':=by
 have hX:=(hr.obj g o hg).2.1;have get:∀b o1,(hp.objs.put g none).get b=some o1->b≠g/\hp.objs.get b=some o1:=λb o1 h=>by
  rw[T.get_put]at h;by_cases e:b=g
  .rw[bi e]at h;cases h
  .rw[bh e]at h;exact⟨e,h⟩
 refine⟨h1.trans hr.os,h2.trans hr.tape,h3.trans hr.output,by rw[h4];exact hr.size,λk hk=>(h5 k λe=>hX (e▸hk)).trans (hr.kept k hk),hr.low,hr.glob,λb o1 hb=>?_,λb1 b2 o1 o2 g1 g2 e=>hr.inj b1 b2 o1 o2 (get _ _ g1).2 (get _ _ g2).2 e,hr.next,hr.inv⟩;obtain⟨hne,hb⟩:=get b o1 hb;obtain⟨k1,k2,k3,ob,k4,k5⟩:=hr.obj b o1 hb;exact⟨k1,k2,k3,ob,(h5 _ λe=>hne (hr.inj _ _ _ _ hb hg e)).trans k4,k5⟩
set_option maxRecDepth 100000 in
theorem EI(b:Nat)(w:World):(binOp .neq 55 (.pointer (some ⟨b,0,none⟩)) (.pointer (some ⟨b,0,none⟩))).run Tryz.prog w=.ok (.bool false) w:=by
 have hq:eZ Tryz.prog 55 (.ptr 0 0) (.ptr 0 0)=some true:=by
  simp only[eZ,show tyU Tryz.prog 55=some (.pointer 58)from rfl,show bI Tryz.prog 58=some 2 from rfl,Nat.beq_refl,bf]
 have he:=ls (θ:=⟨λ_=>b,λ_=>0,λ_=>0,λ_=>undef⟩) (w:=w) hq;simp only[conc]at he;simp only[binOp,ae,he,Result.andThen];rfl
set_option maxHeartbeats 1000000 in
set_option maxRecDepth 100000 in
theorem DL(b:Nat)(w:World)(v:Value)(fr:Nat×Nat)(hb:w.heap[b]? =some (.cells #[.pointer (some ⟨b,0,none⟩),v] 58 fr)):
 Calls Tryz.prog 39 #[.pointer (some ⟨b,0,none⟩)] w λq w'=>q=.returned (.tuple #[])/\w'=w:=by
 have h0:w.cell? ⟨b,0,none⟩=some (.pointer (some ⟨b,0,none⟩)):=by simp[World.cell?,hb]
 go_enter Tryz.func39,Tryz.ntmps39
 go_wp2
 rw[EI];simp only[Result.andThen];rw[Oper.upon_value]
 go_wp2
 go_end0
 exact⟨rfl,rfl⟩
set_option maxHeartbeats 1000000 in
set_option maxRecDepth 100000 in
theorem GL(b:Nat)(p:Value)(w:World)(fr:Nat×Nat)(hb:w.heap[b]? =some (.cells #[p,.slice none 0 0] 58 fr)):
 Calls Tryz.prog 26 #[.pointer (some ⟨b,0,none⟩)] w λq w'=>q=.returned (.string ⟨#[]⟩)/\w'=w.drew:=by
 have c1:w.drew.cell? ⟨b,1,none⟩=some (.slice none 0 0):=by
  have:w.drew.heap[b]? =some (.cells #[p,.slice none 0 0] 58 fr):=hb;simp[World.cell?,this]
 have hSD:(Builtin.unsafeSliceData_ #[56] 146 #[.slice none 0 0]).run Tryz.prog w.drew=.ok (.pointer none) w.drew:=rfl;have hUS:(Builtin.unsafeString_ #[146,3] 9 #[.pointer none,.int .i64 0]).run Tryz.prog w.drew=.ok (.string ⟨#[]⟩) w.drew:=rfl
 go_enter Tryz.func26,Tryz.ntmps26
 go_wp2
 go_region
 all_goals(go_wp2;go_ret;exact⟨rfl,rfl⟩)
section
variable {Γ:Env}{X:Nat->Prop}{w0:World}{θ:Ev.Ren}{K:Nat->Prop}{hp:Hp}{w:World}
theorem Tg{args:List SV}{outs:List Out}(h:ccW args hp=some outs)(hr:Rep Γ X w0 θ K hp w):
 CallsIn Fence.wide 0 Tryz.prog 39 (concL θ args).toArray w (CPost Γ X w0 θ K hp.next outs):=by
 unfold ccW at h;split at h
 .rename_i b;split at h
  .rename_i v e hb;cases hc:(Nat.beq e 58&&SV.one v)with
   |false=>rw[hc]at h;cases h
   |true=>
    rw[hc,bf]at h;simp only[a8]at hc;obtain rfl:=aj hc.1;obtain rfl:=ab h;obtain⟨k1,k2,k3,ob,k4,fr,rfl,k6⟩:=hr.obj b _ hb;refine callsIn_wide.2 ((Id (θ.blk b) w (conc θ v) fr k4 k6).mono ?_);rintro q w' ⟨rfl,rfl⟩;exact⟨_,aQ _,θ,K,Grow.refl _ _ _,rfl,trivial,hr.turn hb ⟨k1,k3.2.1,trivial⟩ ⟨fr,rfl,k6⟩⟩
  .rename_i b' v e hb;cases hc:(Nat.beq e 58&&Nat.beq b' b)with
   |false=>rw[hc]at h;cases h
   |true=>
    rw[hc,bf]at h;simp only[a8]at hc;obtain rfl:=aj hc.1;obtain rfl:=aj hc.2;obtain⟨k1,k2,k3,ob,k4,fr,rfl,k6⟩:=hr.obj b' _ hb;refine eS hr h trivial ((DL (θ.blk b') w (conc θ v) fr k4).mono ?_);rintro q w' ⟨rfl,rfl⟩;exact⟨rfl,Below.refl _ _⟩
  .cases h
 .cases h
theorem zh:∀{l:List SV} {t:bn},Et l=some t->l.length=t.length/\∀(j:Nat) x,t[j]? =some x->l[j]? =some (.lit (.int .u8 x.toNat))
 |[],t,h=>by obtain rfl:=ab h;exact⟨rfl,λj x hx=>by simp at hx⟩
 | .lit (.int .u8 (.ofNat k))::r,t,h=>by
   have h:(bif Nat.blt k 256 then(Et r).map λl=>UInt8.ofNat k::l else none)=some t:=h;cases hk:Nat.blt k 256 with
   |false=>rw[hk]at h;cases h
   |true=>
    rw[hk,bf,aa]at h;obtain⟨t',h1,rfl⟩:=h;have hlt:k<256:=by simpa[Nat.blt_eq]using hk
    obtain⟨h2,h3⟩:=zh h1;refine⟨by simp[h2],λj x hx=>?_⟩;cases j with
    |zero=>
     obtain rfl:UInt8.ofNat k=x:=by simpa using hx
     rw[UInt8.toNat_ofNat_of_lt' hlt];rfl
    |succ j=>exact h3 j x (by simpa using hx)
theorem BU{b rb n cap:Nat}{p v:SV}{outs:List Out}(h:zv rb n v hp=some outs)(hr:Rep Γ X w0 θ K hp w)(hb:hp.objs.get b=some (.cells [p,v] 58))(hv:conc θ v=.slice (some ⟨θ.blk rb,0,none⟩) n cap)(hrb:hp.objs.get rb≠none):
 CallsIn Fence.wide 0 Tryz.prog 26 (concL θ [.ptr b 0]).toArray w (CPost Γ X w0 θ K hp.next outs):=by
 unfold zv at h;split at h
 .rename_i t ht;rw[aJ]at ht;obtain⟨cs,h1,h2⟩:=ht;obtain⟨hc,h⟩:(Nat.blt 0 n&&(Nat.ble n 1000000&&Nat.beq t.length n))=true/\ig ⟨hp.objs.put rb none,hp.next⟩ (txV t)=some outs:=by
   cases hc:(Nat.blt 0 n&&(Nat.ble n 1000000&&Nat.beq t.length n))with
   |false=>rw[hc]at h;cases h
   |true=>rw[hc]at h;exact⟨rfl,h⟩
  obtain rfl:=ab h;simp only[a8]at hc;obtain⟨c1,c2,c3⟩:=hc;have c1:0<n:=by simpa[Nat.blt_eq]using c1
  have c2:=aG c2;have c3:=aj c3;obtain⟨h3,h4⟩:=zh h2;obtain⟨o,ho⟩:∃o,hp.objs.get rb=some o:=Option.ne_none_iff_exists'.1 hrb;obtain⟨k1,k2,k3,ob,k4,fr,rfl,k6⟩:=hr.obj b _ hb;rcases ua h1 hr with⟨rfl,e⟩|⟨bk,cap',cur,fr2,e1,e2,e3,e4⟩
  .rw[e]at h3;simp at h3;omega
  .rw[hv]at e1;injection e1 with e1 e5 e6;injection e1 with e1;injection e1 with e1 _ _;subst e1 e6;have hz:t.length≠0:=by omega
   have hcell:∀(j:Nat) (x:UInt8),t[j]? =some x->cur.toList[j]? =some (Value.int .u8 x.toNat):=λj x hx=>by
    rw[Array.getElem?_toList];exact e4 j _ (h4 j x hx)
   have hlen:t.length<=cur.toList.length:=by
    have:=hcell (t.length-1) _ (aB bj);have:=(List.getElem?_eq_some_iff.1 this).1;omega
   have hb4:w.heap[θ.blk b]? =some (.cells #[conc θ p,.slice (some ⟨θ.blk rb,0,none⟩) t.length cap] 58 fr):=by
    rw[k4,c3,<-hv];rfl
   refine callsIn_wide.2 ((Em (θ.blk b) (θ.blk rb) cap _ t cur.toList w fr fr2 (λe=>by rw[e]at hz;exact hz rfl) bj bj hb4 (by rw[e3,Array.toArray_toList]) hlen hcell).mono ?_);rintro q w' ⟨rfl,rfl⟩;refine⟨_,aQ _,θ,K,Grow.refl _ _ _,rfl,trivial,Rep.forget hr ho ?_ ?_ ?_ ?_ λk hk=>?_⟩
   .simp only[World.freeze,hz,if_false];rfl
   .simp only[World.freeze,hz,if_false];rfl
   .simp only[World.freeze,hz,if_false];rfl
   .simp only[World.freeze,hz,if_false,Array.size_modify];rfl
   .simp only[World.freeze,hz,if_false,Array.getElem?_modify];rw[bh (λe=>hk e.symm)];rfl
 .cases h
theorem rV{α:Type}{b:Bool}{x:Option α}{y:α}(h:(bif b then x else none)=some y):b=true/\x=some y:=by
 cases b with
 |false=>cases h
 |true=>exact⟨rfl,h⟩
theorem Q2{args:List SV}{outs:List Out}(h:zm args hp=some outs)(hr:Rep Γ X w0 θ K hp w):
 CallsIn Fence.wide 0 Tryz.prog 26 (concL θ args).toArray w (CPost Γ X w0 θ K hp.next outs):=by
 unfold zm at h;split at h
 .rename_i b;split at h
  .rename_i p e hb;obtain⟨hc,h⟩:=rV h;obtain rfl:=aj hc;obtain⟨k1,k2,k3,ob,k4,fr,rfl,k6⟩:=hr.obj b _ hb;refine eS hr h trivial ((GL (θ.blk b) (conc θ p) w fr k4).mono ?_);rintro q w' ⟨rfl,rfl⟩;exact⟨rfl,rfl,rfl,rfl,av _,λ_ _=>rfl⟩
  .rename_i p rb n c e hb;obtain⟨hc,h⟩:=rV h;obtain rfl:=aj hc;refine BU h hr hb rfl λe=>?_;simp only[zv,lsC,e]at h;cases h
  .rename_i p rb n k cv e hb;obtain⟨hc,h⟩:=rV h;obtain rfl:=aj hc;refine BU h hr hb rfl λe=>?_;simp only[zv,lsC,e]at h;cases h
  .cases h
 .cases h
end
end Go.Proofs.YtbhokokpplmigaaGreatDoor.fr
