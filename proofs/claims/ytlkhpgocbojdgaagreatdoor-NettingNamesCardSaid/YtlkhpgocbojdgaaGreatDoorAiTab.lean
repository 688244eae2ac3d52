/-
  THE TABLES OF THE SEAT for the evaluator: functions and types, each with its proof. Printed by a small program (mktab.py).
-/
import Derived.Test.YtlkhpgocbojdgaaGreatDoorAiProg
import Derived.Test.YtlkhpgocbojdgaaGreatDoorProg
import Derived.KernelRfl
namespace Go.Proofs.YtlkhpgocbojdgaaGreatDoor.Ai
open Go
theorem fnI2 : fnI Tryz.f2 = some Tryz.f2 := by kernel_rfl
theorem fnI3 : fnI Tryz.f3 = some Tryz.f3 := by kernel_rfl
theorem fnI4 : fnI Tryz.f4 = some Tryz.f4 := by kernel_rfl
theorem fnI5 : fnI Tryz.f5 = some Tryz.f5 := by kernel_rfl
theorem fnI6 : fnI Tryz.f6 = some Tryz.f6 := by kernel_rfl
theorem fnI7 : fnI Tryz.f7 = some Tryz.f7 := by kernel_rfl
theorem fnI8 : fnI Tryz.f8 = some Tryz.f8 := by kernel_rfl
theorem fnI9 : fnI Tryz.f9 = some Tryz.f9 := by kernel_rfl
theorem fnI10 : fnI Tryz.f10 = some Tryz.f10 := by kernel_rfl
theorem fnI11 : fnI Tryz.f11 = some Tryz.f11 := by kernel_rfl
theorem fnI12 : fnI Tryz.f12 = some Tryz.f12 := by kernel_rfl
theorem fnI13 : fnI Tryz.f13 = some Tryz.f13 := by kernel_rfl
theorem fnI14 : fnI Tryz.f14 = some Tryz.f14 := by kernel_rfl
theorem fnI15 : fnI Tryz.f15 = some Tryz.f15 := by kernel_rfl
theorem fnI16 : fnI Tryz.f16 = some Tryz.f16 := by kernel_rfl
theorem fnI17 : fnI Tryz.f17 = some Tryz.f17 := by kernel_rfl
theorem fnI18 : fnI Tryz.f18 = some Tryz.f18 := by kernel_rfl
theorem fnI19 : fnI Tryz.f19 = some Tryz.f19 := by kernel_rfl
theorem fnI20 : fnI Tryz.f20 = some Tryz.f20 := by kernel_rfl
theorem fnI21 : fnI Tryz.f21 = some Tryz.f21 := by kernel_rfl
theorem fnI22 : fnI Tryz.f22 = some Tryz.f22 := by kernel_rfl
theorem fnI23 : fnI Tryz.f23 = some Tryz.f23 := by kernel_rfl
theorem fnI24 : fnI Tryz.f24 = some Tryz.f24 := by kernel_rfl
theorem fnI25 : fnI Tryz.f25 = some Tryz.f25 := by kernel_rfl
theorem fnI26 : fnI Tryz.f26 = some Tryz.f26 := by kernel_rfl
theorem fnI27 : fnI Tryz.f27 = some Tryz.f27 := by kernel_rfl
theorem fnI28 : fnI Tryz.f28 = some Tryz.f28 := by kernel_rfl
theorem fnI29 : fnI Tryz.f29 = some Tryz.f29 := by kernel_rfl
theorem fnI30 : fnI Tryz.f30 = some Tryz.f30 := by kernel_rfl
theorem fnI31 : fnI Tryz.f31 = some Tryz.f31 := by kernel_rfl
theorem fnI32 : fnI Tryz.f32 = some Tryz.f32 := by kernel_rfl
theorem fnI33 : fnI Tryz.f33 = some Tryz.f33 := by kernel_rfl
theorem fnI34 : fnI Tryz.f34 = some Tryz.f34 := by kernel_rfl
theorem fnI35 : fnI Tryz.f35 = some Tryz.f35 := by kernel_rfl
theorem fnI36 : fnI Tryz.f36 = some Tryz.f36 := by kernel_rfl
theorem fnI37 : fnI Tryz.f37 = some Tryz.f37 := by kernel_rfl
theorem fnI38 : fnI Tryz.f38 = some Tryz.f38 := by kernel_rfl
theorem fnI39 : fnI Tryz.f39 = some Tryz.f39 := by kernel_rfl
theorem fnI40 : fnI Tryz.f40 = some Tryz.f40 := by kernel_rfl
theorem fnI41 : fnI Tryz.f41 = some Tryz.f41 := by kernel_rfl
theorem fnI42 : fnI Tryz.f42 = some Tryz.f42 := by kernel_rfl
theorem fnI43 : fnI Tryz.f43 = some Tryz.f43 := by kernel_rfl
theorem fnI44 : fnI Tryz.f44 = some Tryz.f44 := by kernel_rfl
theorem fnI45 : fnI Tryz.f45 = some Tryz.f45 := by kernel_rfl
theorem fnI46 : fnI Tryz.f46 = some Tryz.f46 := by kernel_rfl
theorem fnI47 : fnI Tryz.f47 = some Tryz.f47 := by kernel_rfl
theorem fnI48 : fnI Tryz.f48 = some Tryz.f48 := by kernel_rfl
theorem fnI49 : fnI Tryz.f49 = some Tryz.f49 := by kernel_rfl
theorem fnI50 : fnI Tryz.f50 = some Tryz.f50 := by kernel_rfl
theorem fnI51 : fnI Tryz.f51 = some Tryz.f51 := by kernel_rfl
theorem fnI52 : fnI Tryz.f52 = some Tryz.f52 := by kernel_rfl
theorem fnI53 : fnI Tryz.f53 = some Tryz.f53 := by kernel_rfl
theorem fnI54 : fnI Tryz.f54 = some Tryz.f54 := by kernel_rfl
theorem fnI55 : fnI Tryz.f55 = some Tryz.f55 := by kernel_rfl
theorem fnI56 : fnI Tryz.f56 = some Tryz.f56 := by kernel_rfl
theorem fnI57 : fnI Tryz.f57 = some Tryz.f57 := by kernel_rfl
theorem fnI58 : fnI Tryz.f58 = some Tryz.f58 := by kernel_rfl
theorem fnI59 : fnI Tryz.f59 = some Tryz.f59 := by kernel_rfl
theorem fnI60 : fnI Tryz.f60 = some Tryz.f60 := by kernel_rfl
theorem fnI61 : fnI Tryz.f61 = some Tryz.f61 := by kernel_rfl
theorem fnI62 : fnI Tryz.f62 = some Tryz.f62 := by kernel_rfl
theorem fnI63 : fnI Tryz.f63 = some Tryz.f63 := by kernel_rfl
theorem fnI64 : fnI Tryz.f64 = some Tryz.f64 := by kernel_rfl
theorem fnI65 : fnI Tryz.f65 = some Tryz.f65 := by kernel_rfl
theorem fnI66 : fnI Tryz.f66 = some Tryz.f66 := by kernel_rfl
theorem fnI67 : fnI Tryz.f67 = some Tryz.f67 := by kernel_rfl
theorem fnI68 : fnI Tryz.f68 = some Tryz.f68 := by kernel_rfl
theorem fnI69 : fnI Tryz.f69 = some Tryz.f69 := by kernel_rfl
theorem fnI70 : fnI Tryz.f70 = some Tryz.f70 := by kernel_rfl
theorem fnI71 : fnI Tryz.f71 = some Tryz.f71 := by kernel_rfl
theorem fnI72 : fnI Tryz.f72 = some Tryz.f72 := by kernel_rfl
theorem fnI73 : fnI Tryz.f73 = some Tryz.f73 := by kernel_rfl
theorem fnI74 : fnI Tryz.f74 = some Tryz.f74 := by kernel_rfl
theorem fnI75 : fnI Tryz.f75 = some Tryz.f75 := by kernel_rfl
theorem fnI76 : fnI Tryz.f76 = some Tryz.f76 := by kernel_rfl
theorem fnI77 : fnI Tryz.f77 = some Tryz.f77 := by kernel_rfl
theorem fnI78 : fnI Tryz.f78 = some Tryz.f78 := by kernel_rfl
theorem fnI79 : fnI Tryz.f79 = some Tryz.f79 := by kernel_rfl
theorem fnI80 : fnI Tryz.f80 = some Tryz.f80 := by kernel_rfl
theorem fnI81 : fnI Tryz.f81 = some Tryz.f81 := by kernel_rfl
theorem fnI82 : fnI Tryz.f82 = some Tryz.f82 := by kernel_rfl
theorem fnI83 : fnI Tryz.f83 = some Tryz.f83 := by kernel_rfl
theorem fnI84 : fnI Tryz.f84 = some Tryz.f84 := by kernel_rfl
theorem fnI85 : fnI Tryz.f85 = some Tryz.f85 := by kernel_rfl
theorem fnI86 : fnI Tryz.f86 = some Tryz.f86 := by kernel_rfl
theorem fnI87 : fnI Tryz.f87 = some Tryz.f87 := by kernel_rfl
theorem fnI88 : fnI Tryz.f88 = some Tryz.f88 := by kernel_rfl
theorem fnI89 : fnI Tryz.f89 = some Tryz.f89 := by kernel_rfl
theorem fnI90 : fnI Tryz.f90 = some Tryz.f90 := by kernel_rfl
theorem fnI91 : fnI Tryz.f91 = some Tryz.f91 := by kernel_rfl
theorem fnI92 : fnI Tryz.f92 = some Tryz.f92 := by kernel_rfl
theorem fnI93 : fnI Tryz.f93 = some Tryz.f93 := by kernel_rfl
theorem fnI94 : fnI Tryz.f94 = some Tryz.f94 := by kernel_rfl
theorem fnI95 : fnI Tryz.f95 = some Tryz.f95 := by kernel_rfl
theorem fnI96 : fnI Tryz.f96 = some Tryz.f96 := by kernel_rfl
theorem fnI97 : fnI Tryz.f97 = some Tryz.f97 := by kernel_rfl
theorem fnI98 : fnI Tryz.f98 = some Tryz.f98 := by kernel_rfl
theorem fnI99 : fnI Tryz.f99 = some Tryz.f99 := by kernel_rfl
theorem fnI100 : fnI Tryz.f100 = some Tryz.f100 := by kernel_rfl
theorem fnI101 : fnI Tryz.f101 = some Tryz.f101 := by kernel_rfl
theorem fnI102 : fnI Tryz.f102 = some Tryz.f102 := by kernel_rfl
theorem fnI103 : fnI Tryz.f103 = some Tryz.f103 := by kernel_rfl
theorem fnI104 : fnI Tryz.f104 = some Tryz.f104 := by kernel_rfl
theorem fnI105 : fnI Tryz.f105 = some Tryz.f105 := by kernel_rfl
theorem fnI106 : fnI Tryz.f106 = some Tryz.f106 := by kernel_rfl
theorem fnI107 : fnI Tryz.f107 = some Tryz.f107 := by kernel_rfl
theorem fnI108 : fnI Tryz.f108 = some Tryz.f108 := by kernel_rfl
theorem fnI109 : fnI Tryz.f109 = some Tryz.f109 := by kernel_rfl
theorem fnI110 : fnI Tryz.f110 = some Tryz.f110 := by kernel_rfl
theorem fnI111 : fnI Tryz.f111 = some Tryz.f111 := by kernel_rfl
theorem fnI112 : fnI Tryz.f112 = some Tryz.f112 := by kernel_rfl
theorem fnI113 : fnI Tryz.f113 = some Tryz.f113 := by kernel_rfl
theorem fnI114 : fnI Tryz.f114 = some Tryz.f114 := by kernel_rfl
theorem fnI115 : fnI Tryz.f115 = some Tryz.f115 := by kernel_rfl
theorem fnI116 : fnI Tryz.f116 = some Tryz.f116 := by kernel_rfl
theorem fnI117 : fnI Tryz.f117 = some Tryz.f117 := by kernel_rfl
theorem fnI118 : fnI Tryz.f118 = some Tryz.f118 := by kernel_rfl
theorem fnI119 : fnI Tryz.f119 = some Tryz.f119 := by kernel_rfl
theorem fnI120 : fnI Tryz.f120 = some Tryz.f120 := by kernel_rfl
theorem fnI121 : fnI Tryz.f121 = some Tryz.f121 := by kernel_rfl
theorem fnI122 : fnI Tryz.f122 = some Tryz.f122 := by kernel_rfl
theorem fnI123 : fnI Tryz.f123 = some Tryz.f123 := by kernel_rfl
theorem fnI124 : fnI Tryz.f124 = some Tryz.f124 := by kernel_rfl
theorem fnI125 : fnI Tryz.f125 = some Tryz.f125 := by kernel_rfl
theorem fnI126 : fnI Tryz.f126 = some Tryz.f126 := by kernel_rfl
theorem fnI127 : fnI Tryz.f127 = some Tryz.f127 := by kernel_rfl
theorem fnI128 : fnI Tryz.f128 = some Tryz.f128 := by kernel_rfl
theorem fnI129 : fnI Tryz.f129 = some Tryz.f129 := by kernel_rfl
theorem fnI130 : fnI Tryz.f130 = some Tryz.f130 := by kernel_rfl
theorem fnI131 : fnI Tryz.f131 = some Tryz.f131 := by kernel_rfl
theorem fnI132 : fnI Tryz.f132 = some Tryz.f132 := by kernel_rfl
theorem fnI133 : fnI Tryz.f133 = some Tryz.f133 := by kernel_rfl
theorem fnI134 : fnI Tryz.f134 = some Tryz.f134 := by kernel_rfl
theorem fnI135 : fnI Tryz.f135 = some Tryz.f135 := by kernel_rfl
theorem fnI136 : fnI Tryz.f136 = some Tryz.f136 := by kernel_rfl
theorem fnI137 : fnI Tryz.f137 = some Tryz.f137 := by kernel_rfl
theorem fnI138 : fnI Tryz.f138 = some Tryz.f138 := by kernel_rfl
theorem fnI139 : fnI Tryz.f139 = some Tryz.f139 := by kernel_rfl
theorem fnI140 : fnI Tryz.f140 = some Tryz.f140 := by kernel_rfl
theorem fnI141 : fnI Tryz.f141 = some Tryz.f141 := by kernel_rfl
theorem fnI142 : fnI Tryz.f142 = some Tryz.f142 := by kernel_rfl
theorem fnI143 : fnI Tryz.f143 = some Tryz.f143 := by kernel_rfl
theorem fnI144 : fnI Tryz.f144 = some Tryz.f144 := by kernel_rfl
theorem fnI145 : fnI Tryz.f145 = some Tryz.f145 := by kernel_rfl
theorem fnI146 : fnI Tryz.f146 = some Tryz.f146 := by kernel_rfl
theorem fnI147 : fnI Tryz.f147 = some Tryz.f147 := by kernel_rfl
theorem fnI148 : fnI Tryz.f148 = some Tryz.f148 := by kernel_rfl
theorem fnI150 : fnI Tryz.f150 = some Tryz.f150 := by kernel_rfl
theorem fnI151 : fnI Tryz.f151 = some Tryz.f151 := by kernel_rfl
theorem fnI152 : fnI Tryz.f152 = some Tryz.f152 := by kernel_rfl
theorem fnI153 : fnI Tryz.f153 = some Tryz.f153 := by kernel_rfl
theorem fnI154 : fnI Tryz.f154 = some Tryz.f154 := by kernel_rfl
theorem fnI155 : fnI Tryz.f155 = some Tryz.f155 := by kernel_rfl
theorem fnI156 : fnI Tryz.f156 = some Tryz.f156 := by kernel_rfl
theorem fnI157 : fnI Tryz.f157 = some Tryz.f157 := by kernel_rfl
theorem fnI158 : fnI Tryz.f158 = some Tryz.f158 := by kernel_rfl
theorem fnI159 : fnI Tryz.f159 = some Tryz.f159 := by kernel_rfl
theorem fnI160 : fnI Tryz.f160 = some Tryz.f160 := by kernel_rfl
theorem fnI161 : fnI Tryz.f161 = some Tryz.f161 := by kernel_rfl
theorem fnI162 : fnI Tryz.f162 = some Tryz.f162 := by kernel_rfl
theorem fnI163 : fnI Tryz.f163 = some Tryz.f163 := by kernel_rfl
theorem fnI164 : fnI Tryz.f164 = some Tryz.f164 := by kernel_rfl
theorem fnI165 : fnI Tryz.f165 = some Tryz.f165 := by kernel_rfl
theorem fnI166 : fnI Tryz.f166 = some Tryz.f166 := by kernel_rfl
theorem fnI167 : fnI Tryz.f167 = some Tryz.f167 := by kernel_rfl
theorem fnI168 : fnI Tryz.f168 = some Tryz.f168 := by kernel_rfl
theorem fnI169 : fnI Tryz.f169 = some Tryz.f169 := by kernel_rfl
theorem fnI170 : fnI Tryz.f170 = some Tryz.f170 := by kernel_rfl
theorem fnI171 : fnI Tryz.f171 = some Tryz.f171 := by kernel_rfl
theorem fnI172 : fnI Tryz.f172 = some Tryz.f172 := by kernel_rfl
theorem fnI173 : fnI Tryz.f173 = some Tryz.f173 := by kernel_rfl
theorem fnI174 : fnI Tryz.f174 = some Tryz.f174 := by kernel_rfl
theorem fnI175 : fnI Tryz.f175 = some Tryz.f175 := by kernel_rfl
theorem fnI176 : fnI Tryz.f176 = some Tryz.f176 := by kernel_rfl
theorem fnI177 : fnI Tryz.f177 = some Tryz.f177 := by kernel_rfl
theorem fnI178 : fnI Tryz.f178 = some Tryz.f178 := by kernel_rfl
theorem fnI180 : fnI Tryz.f180 = some Tryz.f180 := by kernel_rfl
theorem fnI181 : fnI Tryz.f181 = some Tryz.f181 := by kernel_rfl
theorem fnI182 : fnI Tryz.f182 = some Tryz.f182 := by kernel_rfl
theorem fnI183 : fnI Tryz.f183 = some Tryz.f183 := by kernel_rfl
theorem fnI184 : fnI Tryz.f184 = some Tryz.f184 := by kernel_rfl
theorem fnI185 : fnI Tryz.f185 = some Tryz.f185 := by kernel_rfl
theorem fnI186 : fnI Tryz.f186 = some Tryz.f186 := by kernel_rfl
theorem fnI187 : fnI Tryz.f187 = some Tryz.f187 := by kernel_rfl
theorem fnI188 : fnI Tryz.f188 = some Tryz.f188 := by kernel_rfl
theorem fnI189 : fnI Tryz.f189 = some Tryz.f189 := by kernel_rfl
theorem fnI190 : fnI Tryz.f190 = some Tryz.f190 := by kernel_rfl
theorem fnI191 : fnI Tryz.f191 = some Tryz.f191 := by kernel_rfl
theorem fnI192 : fnI Tryz.f192 = some Tryz.f192 := by kernel_rfl
theorem fnI193 : fnI Tryz.f193 = some Tryz.f193 := by kernel_rfl
theorem fnI194 : fnI Tryz.f194 = some Tryz.f194 := by kernel_rfl
theorem fnI195 : fnI Tryz.f195 = some Tryz.f195 := by kernel_rfl
theorem fnI196 : fnI Tryz.f196 = some Tryz.f196 := by kernel_rfl
theorem fnI197 : fnI Tryz.f197 = some Tryz.f197 := by kernel_rfl
theorem fnI199 : fnI Tryz.f199 = some Tryz.f199 := by kernel_rfl
theorem fnI200 : fnI Tryz.f200 = some Tryz.f200 := by kernel_rfl
theorem fnI201 : fnI Tryz.f201 = some Tryz.f201 := by kernel_rfl
theorem fnI202 : fnI Tryz.f202 = some Tryz.f202 := by kernel_rfl
theorem fnI203 : fnI Tryz.f203 = some Tryz.f203 := by kernel_rfl
theorem fnI204 : fnI Tryz.f204 = some Tryz.f204 := by kernel_rfl
theorem fnI205 : fnI Tryz.f205 = some Tryz.f205 := by kernel_rfl
theorem fnI206 : fnI Tryz.f206 = some Tryz.f206 := by kernel_rfl
theorem fnI207 : fnI Tryz.f207 = some Tryz.f207 := by kernel_rfl
theorem fnI209 : fnI Tryz.f209 = some Tryz.f209 := by kernel_rfl
theorem fnI210 : fnI Tryz.f210 = some Tryz.f210 := by kernel_rfl
theorem fnI211 : fnI Tryz.f211 = some Tryz.f211 := by kernel_rfl
theorem fnI212 : fnI Tryz.f212 = some Tryz.f212 := by kernel_rfl
theorem fnI213 : fnI Tryz.f213 = some Tryz.f213 := by kernel_rfl
theorem fnI214 : fnI Tryz.f214 = some Tryz.f214 := by kernel_rfl
theorem fnI215 : fnI Tryz.f215 = some Tryz.f215 := by kernel_rfl
theorem fnI216 : fnI Tryz.f216 = some Tryz.f216 := by kernel_rfl
theorem fnI217 : fnI Tryz.f217 = some Tryz.f217 := by kernel_rfl
theorem fnI218 : fnI Tryz.f218 = some Tryz.f218 := by kernel_rfl
theorem fnI219 : fnI Tryz.f219 = some Tryz.f219 := by kernel_rfl
theorem fnI249 : fnI Tryz.f249 = some Tryz.f249 := by kernel_rfl
theorem tyF0 : TyFact Tryz.prog 0 (mkTy Tryz.t0 Tryz.t0) := ty_fact Tryz.type0 Tryz.underlying0 (by kernel_rfl)
theorem tyF1 : TyFact Tryz.prog 1 (mkTy Tryz.t1 Tryz.t1) := ty_fact Tryz.type1 Tryz.underlying1 (by kernel_rfl)
theorem tyF2 : TyFact Tryz.prog 2 (mkTy Tryz.t2 Tryz.t2) := ty_fact Tryz.type2 Tryz.underlying2 (by kernel_rfl)
theorem tyF3 : TyFact Tryz.prog 3 (mkTy Tryz.t3 Tryz.t3) := ty_fact Tryz.type3 Tryz.underlying3 (by kernel_rfl)
theorem tyF4 : TyFact Tryz.prog 4 (mkTy Tryz.t4 Tryz.t4) := ty_fact Tryz.type4 Tryz.underlying4 (by kernel_rfl)
theorem tyF5 : TyFact Tryz.prog 5 (mkTy Tryz.t5 Tryz.t5) := ty_fact Tryz.type5 Tryz.underlying5 (by kernel_rfl)
theorem tyF6 : TyFact Tryz.prog 6 (mkTy Tryz.t5 Tryz.t6) := ty_fact Tryz.type6 Tryz.underlying6 (by kernel_rfl)
theorem tyF7 : TyFact Tryz.prog 7 (mkTy Tryz.t7 Tryz.t7) := ty_fact Tryz.type7 Tryz.underlying7 (by kernel_rfl)
theorem tyF8 : TyFact Tryz.prog 8 (mkTy Tryz.t7 Tryz.t8) := ty_fact Tryz.type8 Tryz.underlying8 (by kernel_rfl)
theorem tyF9 : TyFact Tryz.prog 9 (mkTy Tryz.t9 Tryz.t9) := ty_fact Tryz.type9 Tryz.underlying9 (by kernel_rfl)
theorem tyF10 : TyFact Tryz.prog 10 (mkTy Tryz.t9 Tryz.t10) := ty_fact Tryz.type10 Tryz.underlying10 (by kernel_rfl)
theorem tyF11 : TyFact Tryz.prog 11 (mkTy Tryz.t9 Tryz.t11) := ty_fact Tryz.type11 Tryz.underlying11 (by kernel_rfl)
theorem tyF12 : TyFact Tryz.prog 12 (mkTy Tryz.t12 Tryz.t12) := ty_fact Tryz.type12 Tryz.underlying12 (by kernel_rfl)
theorem tyF13 : TyFact Tryz.prog 13 (mkTy Tryz.t13 Tryz.t13) := ty_fact Tryz.type13 Tryz.underlying13 (by kernel_rfl)
theorem tyF14 : TyFact Tryz.prog 14 (mkTy Tryz.t13 Tryz.t14) := ty_fact Tryz.type14 Tryz.underlying14 (by kernel_rfl)
theorem tyF15 : TyFact Tryz.prog 15 (mkTy Tryz.t15 Tryz.t15) := ty_fact Tryz.type15 Tryz.underlying15 (by kernel_rfl)
theorem tyF16 : TyFact Tryz.prog 16 (mkTy Tryz.t16 Tryz.t16) := ty_fact Tryz.type16 Tryz.underlying16 (by kernel_rfl)
theorem tyF17 : TyFact Tryz.prog 17 (mkTy Tryz.t17 Tryz.t17) := ty_fact Tryz.type17 Tryz.underlying17 (by kernel_rfl)
theorem tyF18 : TyFact Tryz.prog 18 (mkTy Tryz.t18 Tryz.t18) := ty_fact Tryz.type18 Tryz.underlying18 (by kernel_rfl)
theorem tyF19 : TyFact Tryz.prog 19 (mkTy Tryz.t18 Tryz.t19) := ty_fact Tryz.type19 Tryz.underlying19 (by kernel_rfl)
theorem tyF20 : TyFact Tryz.prog 20 (mkTy Tryz.t20 Tryz.t20) := ty_fact Tryz.type20 Tryz.underlying20 (by kernel_rfl)
theorem tyF21 : TyFact Tryz.prog 21 (mkTy Tryz.t21 Tryz.t21) := ty_fact Tryz.type21 Tryz.underlying21 (by kernel_rfl)
theorem tyF22 : TyFact Tryz.prog 22 (mkTy Tryz.t22 Tryz.t22) := ty_fact Tryz.type22 Tryz.underlying22 (by kernel_rfl)
theorem tyF23 : TyFact Tryz.prog 23 (mkTy Tryz.t22 Tryz.t23) := ty_fact Tryz.type23 Tryz.underlying23 (by kernel_rfl)
theorem tyF24 : TyFact Tryz.prog 24 (mkTy Tryz.t24 Tryz.t24) := ty_fact Tryz.type24 Tryz.underlying24 (by kernel_rfl)
theorem tyF25 : TyFact Tryz.prog 25 (mkTy Tryz.t25 Tryz.t25) := ty_fact Tryz.type25 Tryz.underlying25 (by kernel_rfl)
theorem tyF26 : TyFact Tryz.prog 26 (mkTy Tryz.t26 Tryz.t26) := ty_fact Tryz.type26 Tryz.underlying26 (by kernel_rfl)
theorem tyF27 : TyFact Tryz.prog 27 (mkTy Tryz.t3 Tryz.t27) := ty_fact Tryz.type27 Tryz.underlying27 (by kernel_rfl)
theorem tyF28 : TyFact Tryz.prog 28 (mkTy Tryz.t28 Tryz.t28) := ty_fact Tryz.type28 Tryz.underlying28 (by kernel_rfl)
theorem tyF29 : TyFact Tryz.prog 29 (mkTy Tryz.t29 Tryz.t29) := ty_fact Tryz.type29 Tryz.underlying29 (by kernel_rfl)
theorem tyF30 : TyFact Tryz.prog 30 (mkTy Tryz.t30 Tryz.t30) := ty_fact Tryz.type30 Tryz.underlying30 (by kernel_rfl)
theorem tyF31 : TyFact Tryz.prog 31 (mkTy Tryz.t31 Tryz.t31) := ty_fact Tryz.type31 Tryz.underlying31 (by kernel_rfl)
theorem tyF32 : TyFact Tryz.prog 32 (mkTy Tryz.t32 Tryz.t32) := ty_fact Tryz.type32 Tryz.underlying32 (by kernel_rfl)
theorem tyF33 : TyFact Tryz.prog 33 (mkTy Tryz.t33 Tryz.t33) := ty_fact Tryz.type33 Tryz.underlying33 (by kernel_rfl)
theorem tyF34 : TyFact Tryz.prog 34 (mkTy Tryz.t34 Tryz.t34) := ty_fact Tryz.type34 Tryz.underlying34 (by kernel_rfl)
theorem tyF35 : TyFact Tryz.prog 35 (mkTy Tryz.t35 Tryz.t35) := ty_fact Tryz.type35 Tryz.underlying35 (by kernel_rfl)
theorem tyF36 : TyFact Tryz.prog 36 (mkTy Tryz.t36 Tryz.t36) := ty_fact Tryz.type36 Tryz.underlying36 (by kernel_rfl)
theorem tyF37 : TyFact Tryz.prog 37 (mkTy Tryz.t37 Tryz.t37) := ty_fact Tryz.type37 Tryz.underlying37 (by kernel_rfl)
theorem tyF38 : TyFact Tryz.prog 38 (mkTy Tryz.t38 Tryz.t38) := ty_fact Tryz.type38 Tryz.underlying38 (by kernel_rfl)
theorem tyF39 : TyFact Tryz.prog 39 (mkTy Tryz.t38 Tryz.t39) := ty_fact Tryz.type39 Tryz.underlying39 (by kernel_rfl)
theorem tyF40 : TyFact Tryz.prog 40 (mkTy Tryz.t40 Tryz.t40) := ty_fact Tryz.type40 Tryz.underlying40 (by kernel_rfl)
theorem tyF41 : TyFact Tryz.prog 41 (mkTy Tryz.t41 Tryz.t41) := ty_fact Tryz.type41 Tryz.underlying41 (by kernel_rfl)
theorem tyF42 : TyFact Tryz.prog 42 (mkTy Tryz.t42 Tryz.t42) := ty_fact Tryz.type42 Tryz.underlying42 (by kernel_rfl)
theorem tyF43 : TyFact Tryz.prog 43 (mkTy Tryz.t43 Tryz.t43) := ty_fact Tryz.type43 Tryz.underlying43 (by kernel_rfl)
theorem tyF44 : TyFact Tryz.prog 44 (mkTy Tryz.t44 Tryz.t44) := ty_fact Tryz.type44 Tryz.underlying44 (by kernel_rfl)
theorem tyF45 : TyFact Tryz.prog 45 (mkTy Tryz.t38 Tryz.t45) := ty_fact Tryz.type45 Tryz.underlying45 (by kernel_rfl)
theorem tyF46 : TyFact Tryz.prog 46 (mkTy Tryz.t46 Tryz.t46) := ty_fact Tryz.type46 Tryz.underlying46 (by kernel_rfl)
theorem tyF47 : TyFact Tryz.prog 47 (mkTy Tryz.t47 Tryz.t47) := ty_fact Tryz.type47 Tryz.underlying47 (by kernel_rfl)
theorem tyF48 : TyFact Tryz.prog 48 (mkTy Tryz.t48 Tryz.t48) := ty_fact Tryz.type48 Tryz.underlying48 (by kernel_rfl)
theorem tyF49 : TyFact Tryz.prog 49 (mkTy Tryz.t49 Tryz.t49) := ty_fact Tryz.type49 Tryz.underlying49 (by kernel_rfl)
theorem tyF50 : TyFact Tryz.prog 50 (mkTy Tryz.t50 Tryz.t50) := ty_fact Tryz.type50 Tryz.underlying50 (by kernel_rfl)
theorem tyF51 : TyFact Tryz.prog 51 (mkTy Tryz.t51 Tryz.t51) := ty_fact Tryz.type51 Tryz.underlying51 (by kernel_rfl)
theorem tyF52 : TyFact Tryz.prog 52 (mkTy Tryz.t52 Tryz.t52) := ty_fact Tryz.type52 Tryz.underlying52 (by kernel_rfl)
theorem tyF53 : TyFact Tryz.prog 53 (mkTy Tryz.t53 Tryz.t53) := ty_fact Tryz.type53 Tryz.underlying53 (by kernel_rfl)
theorem tyF54 : TyFact Tryz.prog 54 (mkTy Tryz.t54 Tryz.t54) := ty_fact Tryz.type54 Tryz.underlying54 (by kernel_rfl)
theorem tyF55 : TyFact Tryz.prog 55 (mkTy Tryz.t55 Tryz.t55) := ty_fact Tryz.type55 Tryz.underlying55 (by kernel_rfl)
theorem tyF56 : TyFact Tryz.prog 56 (mkTy Tryz.t56 Tryz.t56) := ty_fact Tryz.type56 Tryz.underlying56 (by kernel_rfl)
theorem tyF57 : TyFact Tryz.prog 57 (mkTy Tryz.t57 Tryz.t57) := ty_fact Tryz.type57 Tryz.underlying57 (by kernel_rfl)
theorem tyF58 : TyFact Tryz.prog 58 (mkTy Tryz.t58 Tryz.t58) := ty_fact Tryz.type58 Tryz.underlying58 (by kernel_rfl)
theorem tyF59 : TyFact Tryz.prog 59 (mkTy Tryz.t59 Tryz.t59) := ty_fact Tryz.type59 Tryz.underlying59 (by kernel_rfl)
theorem tyF60 : TyFact Tryz.prog 60 (mkTy Tryz.t59 Tryz.t60) := ty_fact Tryz.type60 Tryz.underlying60 (by kernel_rfl)
theorem tyF61 : TyFact Tryz.prog 61 (mkTy Tryz.t61 Tryz.t61) := ty_fact Tryz.type61 Tryz.underlying61 (by kernel_rfl)
theorem tyF62 : TyFact Tryz.prog 62 (mkTy Tryz.t62 Tryz.t62) := ty_fact Tryz.type62 Tryz.underlying62 (by kernel_rfl)
theorem tyF63 : TyFact Tryz.prog 63 (mkTy Tryz.t63 Tryz.t63) := ty_fact Tryz.type63 Tryz.underlying63 (by kernel_rfl)
theorem tyF64 : TyFact Tryz.prog 64 (mkTy Tryz.t64 Tryz.t64) := ty_fact Tryz.type64 Tryz.underlying64 (by kernel_rfl)
theorem tyF65 : TyFact Tryz.prog 65 (mkTy Tryz.t65 Tryz.t65) := ty_fact Tryz.type65 Tryz.underlying65 (by kernel_rfl)
theorem tyF66 : TyFact Tryz.prog 66 (mkTy Tryz.t66 Tryz.t66) := ty_fact Tryz.type66 Tryz.underlying66 (by kernel_rfl)
theorem tyF67 : TyFact Tryz.prog 67 (mkTy Tryz.t67 Tryz.t67) := ty_fact Tryz.type67 Tryz.underlying67 (by kernel_rfl)
theorem tyF68 : TyFact Tryz.prog 68 (mkTy Tryz.t68 Tryz.t68) := ty_fact Tryz.type68 Tryz.underlying68 (by kernel_rfl)
theorem tyF69 : TyFact Tryz.prog 69 (mkTy Tryz.t69 Tryz.t69) := ty_fact Tryz.type69 Tryz.underlying69 (by kernel_rfl)
theorem tyF70 : TyFact Tryz.prog 70 (mkTy Tryz.t70 Tryz.t70) := ty_fact Tryz.type70 Tryz.underlying70 (by kernel_rfl)
theorem tyF71 : TyFact Tryz.prog 71 (mkTy Tryz.t71 Tryz.t71) := ty_fact Tryz.type71 Tryz.underlying71 (by kernel_rfl)
theorem tyF72 : TyFact Tryz.prog 72 (mkTy Tryz.t72 Tryz.t72) := ty_fact Tryz.type72 Tryz.underlying72 (by kernel_rfl)
theorem tyF73 : TyFact Tryz.prog 73 (mkTy Tryz.t73 Tryz.t73) := ty_fact Tryz.type73 Tryz.underlying73 (by kernel_rfl)
theorem tyF74 : TyFact Tryz.prog 74 (mkTy Tryz.t74 Tryz.t74) := ty_fact Tryz.type74 Tryz.underlying74 (by kernel_rfl)
theorem tyF75 : TyFact Tryz.prog 75 (mkTy Tryz.t75 Tryz.t75) := ty_fact Tryz.type75 Tryz.underlying75 (by kernel_rfl)
theorem tyF76 : TyFact Tryz.prog 76 (mkTy Tryz.t76 Tryz.t76) := ty_fact Tryz.type76 Tryz.underlying76 (by kernel_rfl)
theorem tyF77 : TyFact Tryz.prog 77 (mkTy Tryz.t77 Tryz.t77) := ty_fact Tryz.type77 Tryz.underlying77 (by kernel_rfl)
theorem tyF78 : TyFact Tryz.prog 78 (mkTy Tryz.t78 Tryz.t78) := ty_fact Tryz.type78 Tryz.underlying78 (by kernel_rfl)
theorem tyF79 : TyFact Tryz.prog 79 (mkTy Tryz.t79 Tryz.t79) := ty_fact Tryz.type79 Tryz.underlying79 (by kernel_rfl)
theorem tyF80 : TyFact Tryz.prog 80 (mkTy Tryz.t80 Tryz.t80) := ty_fact Tryz.type80 Tryz.underlying80 (by kernel_rfl)
theorem tyF81 : TyFact Tryz.prog 81 (mkTy Tryz.t81 Tryz.t81) := ty_fact Tryz.type81 Tryz.underlying81 (by kernel_rfl)
theorem tyF82 : TyFact Tryz.prog 82 (mkTy Tryz.t82 Tryz.t82) := ty_fact Tryz.type82 Tryz.underlying82 (by kernel_rfl)
theorem tyF83 : TyFact Tryz.prog 83 (mkTy Tryz.t83 Tryz.t83) := ty_fact Tryz.type83 Tryz.underlying83 (by kernel_rfl)
theorem tyF84 : TyFact Tryz.prog 84 (mkTy Tryz.t84 Tryz.t84) := ty_fact Tryz.type84 Tryz.underlying84 (by kernel_rfl)
theorem tyF85 : TyFact Tryz.prog 85 (mkTy Tryz.t85 Tryz.t85) := ty_fact Tryz.type85 Tryz.underlying85 (by kernel_rfl)
theorem tyF86 : TyFact Tryz.prog 86 (mkTy Tryz.t86 Tryz.t86) := ty_fact Tryz.type86 Tryz.underlying86 (by kernel_rfl)
theorem tyF87 : TyFact Tryz.prog 87 (mkTy Tryz.t87 Tryz.t87) := ty_fact Tryz.type87 Tryz.underlying87 (by kernel_rfl)
theorem tyF88 : TyFact Tryz.prog 88 (mkTy Tryz.t88 Tryz.t88) := ty_fact Tryz.type88 Tryz.underlying88 (by kernel_rfl)
theorem tyF89 : TyFact Tryz.prog 89 (mkTy Tryz.t89 Tryz.t89) := ty_fact Tryz.type89 Tryz.underlying89 (by kernel_rfl)
theorem tyF90 : TyFact Tryz.prog 90 (mkTy Tryz.t90 Tryz.t90) := ty_fact Tryz.type90 Tryz.underlying90 (by kernel_rfl)
theorem tyF91 : TyFact Tryz.prog 91 (mkTy Tryz.t91 Tryz.t91) := ty_fact Tryz.type91 Tryz.underlying91 (by kernel_rfl)
theorem tyF92 : TyFact Tryz.prog 92 (mkTy Tryz.t92 Tryz.t92) := ty_fact Tryz.type92 Tryz.underlying92 (by kernel_rfl)
theorem tyF93 : TyFact Tryz.prog 93 (mkTy Tryz.t93 Tryz.t93) := ty_fact Tryz.type93 Tryz.underlying93 (by kernel_rfl)
theorem tyF94 : TyFact Tryz.prog 94 (mkTy Tryz.t94 Tryz.t94) := ty_fact Tryz.type94 Tryz.underlying94 (by kernel_rfl)
theorem tyF95 : TyFact Tryz.prog 95 (mkTy Tryz.t95 Tryz.t95) := ty_fact Tryz.type95 Tryz.underlying95 (by kernel_rfl)
theorem tyF96 : TyFact Tryz.prog 96 (mkTy Tryz.t96 Tryz.t96) := ty_fact Tryz.type96 Tryz.underlying96 (by kernel_rfl)
theorem tyF97 : TyFact Tryz.prog 97 (mkTy Tryz.t97 Tryz.t97) := ty_fact Tryz.type97 Tryz.underlying97 (by kernel_rfl)
theorem tyF98 : TyFact Tryz.prog 98 (mkTy Tryz.t98 Tryz.t98) := ty_fact Tryz.type98 Tryz.underlying98 (by kernel_rfl)
theorem tyF99 : TyFact Tryz.prog 99 (mkTy Tryz.t99 Tryz.t99) := ty_fact Tryz.type99 Tryz.underlying99 (by kernel_rfl)
theorem tyF100 : TyFact Tryz.prog 100 (mkTy Tryz.t100 Tryz.t100) := ty_fact Tryz.type100 Tryz.underlying100 (by kernel_rfl)
theorem tyF101 : TyFact Tryz.prog 101 (mkTy Tryz.t101 Tryz.t101) := ty_fact Tryz.type101 Tryz.underlying101 (by kernel_rfl)
theorem tyF102 : TyFact Tryz.prog 102 (mkTy Tryz.t102 Tryz.t102) := ty_fact Tryz.type102 Tryz.underlying102 (by kernel_rfl)
theorem tyF103 : TyFact Tryz.prog 103 (mkTy Tryz.t103 Tryz.t103) := ty_fact Tryz.type103 Tryz.underlying103 (by kernel_rfl)
theorem tyF104 : TyFact Tryz.prog 104 (mkTy Tryz.t104 Tryz.t104) := ty_fact Tryz.type104 Tryz.underlying104 (by kernel_rfl)
theorem tyF105 : TyFact Tryz.prog 105 (mkTy Tryz.t105 Tryz.t105) := ty_fact Tryz.type105 Tryz.underlying105 (by kernel_rfl)
theorem tyF106 : TyFact Tryz.prog 106 (mkTy Tryz.t106 Tryz.t106) := ty_fact Tryz.type106 Tryz.underlying106 (by kernel_rfl)
theorem tyF107 : TyFact Tryz.prog 107 (mkTy Tryz.t107 Tryz.t107) := ty_fact Tryz.type107 Tryz.underlying107 (by kernel_rfl)
theorem tyF108 : TyFact Tryz.prog 108 (mkTy Tryz.t108 Tryz.t108) := ty_fact Tryz.type108 Tryz.underlying108 (by kernel_rfl)
theorem tyF109 : TyFact Tryz.prog 109 (mkTy Tryz.t109 Tryz.t109) := ty_fact Tryz.type109 Tryz.underlying109 (by kernel_rfl)
theorem tyF110 : TyFact Tryz.prog 110 (mkTy Tryz.t110 Tryz.t110) := ty_fact Tryz.type110 Tryz.underlying110 (by kernel_rfl)
theorem tyF111 : TyFact Tryz.prog 111 (mkTy Tryz.t111 Tryz.t111) := ty_fact Tryz.type111 Tryz.underlying111 (by kernel_rfl)
theorem tyF112 : TyFact Tryz.prog 112 (mkTy Tryz.t112 Tryz.t112) := ty_fact Tryz.type112 Tryz.underlying112 (by kernel_rfl)
theorem tyF113 : TyFact Tryz.prog 113 (mkTy Tryz.t113 Tryz.t113) := ty_fact Tryz.type113 Tryz.underlying113 (by kernel_rfl)
theorem tyF114 : TyFact Tryz.prog 114 (mkTy Tryz.t114 Tryz.t114) := ty_fact Tryz.type114 Tryz.underlying114 (by kernel_rfl)
theorem tyF115 : TyFact Tryz.prog 115 (mkTy Tryz.t115 Tryz.t115) := ty_fact Tryz.type115 Tryz.underlying115 (by kernel_rfl)
theorem tyF116 : TyFact Tryz.prog 116 (mkTy Tryz.t116 Tryz.t116) := ty_fact Tryz.type116 Tryz.underlying116 (by kernel_rfl)
theorem tyF117 : TyFact Tryz.prog 117 (mkTy Tryz.t117 Tryz.t117) := ty_fact Tryz.type117 Tryz.underlying117 (by kernel_rfl)
theorem tyF118 : TyFact Tryz.prog 118 (mkTy Tryz.t118 Tryz.t118) := ty_fact Tryz.type118 Tryz.underlying118 (by kernel_rfl)
theorem tyF119 : TyFact Tryz.prog 119 (mkTy Tryz.t119 Tryz.t119) := ty_fact Tryz.type119 Tryz.underlying119 (by kernel_rfl)
theorem tyF120 : TyFact Tryz.prog 120 (mkTy Tryz.t120 Tryz.t120) := ty_fact Tryz.type120 Tryz.underlying120 (by kernel_rfl)
theorem tyF121 : TyFact Tryz.prog 121 (mkTy Tryz.t22 Tryz.t121) := ty_fact Tryz.type121 Tryz.underlying121 (by kernel_rfl)
theorem tyF122 : TyFact Tryz.prog 122 (mkTy Tryz.t122 Tryz.t122) := ty_fact Tryz.type122 Tryz.underlying122 (by kernel_rfl)
theorem tyF123 : TyFact Tryz.prog 123 (mkTy Tryz.t123 Tryz.t123) := ty_fact Tryz.type123 Tryz.underlying123 (by kernel_rfl)
theorem tyF124 : TyFact Tryz.prog 124 (mkTy Tryz.t124 Tryz.t124) := ty_fact Tryz.type124 Tryz.underlying124 (by kernel_rfl)
theorem tyF125 : TyFact Tryz.prog 125 (mkTy Tryz.t125 Tryz.t125) := ty_fact Tryz.type125 Tryz.underlying125 (by kernel_rfl)
theorem tyF126 : TyFact Tryz.prog 126 (mkTy Tryz.t126 Tryz.t126) := ty_fact Tryz.type126 Tryz.underlying126 (by kernel_rfl)
theorem tyF127 : TyFact Tryz.prog 127 (mkTy Tryz.t127 Tryz.t127) := ty_fact Tryz.type127 Tryz.underlying127 (by kernel_rfl)
theorem tyF128 : TyFact Tryz.prog 128 (mkTy Tryz.t127 Tryz.t128) := ty_fact Tryz.type128 Tryz.underlying128 (by kernel_rfl)
theorem tyF129 : TyFact Tryz.prog 129 (mkTy Tryz.t129 Tryz.t129) := ty_fact Tryz.type129 Tryz.underlying129 (by kernel_rfl)
theorem tyF130 : TyFact Tryz.prog 130 (mkTy Tryz.t130 Tryz.t130) := ty_fact Tryz.type130 Tryz.underlying130 (by kernel_rfl)
theorem tyF131 : TyFact Tryz.prog 131 (mkTy Tryz.t131 Tryz.t131) := ty_fact Tryz.type131 Tryz.underlying131 (by kernel_rfl)
theorem tyF132 : TyFact Tryz.prog 132 (mkTy Tryz.t132 Tryz.t132) := ty_fact Tryz.type132 Tryz.underlying132 (by kernel_rfl)
theorem tyF133 : TyFact Tryz.prog 133 (mkTy Tryz.t133 Tryz.t133) := ty_fact Tryz.type133 Tryz.underlying133 (by kernel_rfl)
theorem tyF134 : TyFact Tryz.prog 134 (mkTy Tryz.t134 Tryz.t134) := ty_fact Tryz.type134 Tryz.underlying134 (by kernel_rfl)
theorem tyF135 : TyFact Tryz.prog 135 (mkTy Tryz.t135 Tryz.t135) := ty_fact Tryz.type135 Tryz.underlying135 (by kernel_rfl)
theorem tyF136 : TyFact Tryz.prog 136 (mkTy Tryz.t22 Tryz.t136) := ty_fact Tryz.type136 Tryz.underlying136 (by kernel_rfl)
theorem tyF137 : TyFact Tryz.prog 137 (mkTy Tryz.t137 Tryz.t137) := ty_fact Tryz.type137 Tryz.underlying137 (by kernel_rfl)
theorem tyF138 : TyFact Tryz.prog 138 (mkTy Tryz.t138 Tryz.t138) := ty_fact Tryz.type138 Tryz.underlying138 (by kernel_rfl)
theorem tyF139 : TyFact Tryz.prog 139 (mkTy Tryz.t139 Tryz.t139) := ty_fact Tryz.type139 Tryz.underlying139 (by kernel_rfl)
theorem tyF140 : TyFact Tryz.prog 140 (mkTy Tryz.t140 Tryz.t140) := ty_fact Tryz.type140 Tryz.underlying140 (by kernel_rfl)
theorem tyF141 : TyFact Tryz.prog 141 (mkTy Tryz.t141 Tryz.t141) := ty_fact Tryz.type141 Tryz.underlying141 (by kernel_rfl)
theorem tyF142 : TyFact Tryz.prog 142 (mkTy Tryz.t142 Tryz.t142) := ty_fact Tryz.type142 Tryz.underlying142 (by kernel_rfl)
theorem tyF143 : TyFact Tryz.prog 143 (mkTy Tryz.t143 Tryz.t143) := ty_fact Tryz.type143 Tryz.underlying143 (by kernel_rfl)
theorem tyF144 : TyFact Tryz.prog 144 (mkTy Tryz.t144 Tryz.t144) := ty_fact Tryz.type144 Tryz.underlying144 (by kernel_rfl)
theorem tyF145 : TyFact Tryz.prog 145 (mkTy Tryz.t145 Tryz.t145) := ty_fact Tryz.type145 Tryz.underlying145 (by kernel_rfl)
theorem tyF146 : TyFact Tryz.prog 146 (mkTy Tryz.t146 Tryz.t146) := ty_fact Tryz.type146 Tryz.underlying146 (by kernel_rfl)
theorem tyF147 : TyFact Tryz.prog 147 (mkTy Tryz.t146 Tryz.t147) := ty_fact Tryz.type147 Tryz.underlying147 (by kernel_rfl)
theorem tyF148 : TyFact Tryz.prog 148 (mkTy Tryz.t148 Tryz.t148) := ty_fact Tryz.type148 Tryz.underlying148 (by kernel_rfl)
theorem tyF149 : TyFact Tryz.prog 149 (mkTy Tryz.t148 Tryz.t149) := ty_fact Tryz.type149 Tryz.underlying149 (by kernel_rfl)
theorem tyF150 : TyFact Tryz.prog 150 (mkTy Tryz.t150 Tryz.t150) := ty_fact Tryz.type150 Tryz.underlying150 (by kernel_rfl)
theorem tyF151 : TyFact Tryz.prog 151 (mkTy Tryz.t151 Tryz.t151) := ty_fact Tryz.type151 Tryz.underlying151 (by kernel_rfl)
theorem tyF152 : TyFact Tryz.prog 152 (mkTy Tryz.t152 Tryz.t152) := ty_fact Tryz.type152 Tryz.underlying152 (by kernel_rfl)
theorem tyF153 : TyFact Tryz.prog 153 (mkTy Tryz.t153 Tryz.t153) := ty_fact Tryz.type153 Tryz.underlying153 (by kernel_rfl)
theorem tyF154 : TyFact Tryz.prog 154 (mkTy Tryz.t154 Tryz.t154) := ty_fact Tryz.type154 Tryz.underlying154 (by kernel_rfl)
theorem tyF155 : TyFact Tryz.prog 155 (mkTy Tryz.t155 Tryz.t155) := ty_fact Tryz.type155 Tryz.underlying155 (by kernel_rfl)
theorem tyF156 : TyFact Tryz.prog 156 (mkTy Tryz.t156 Tryz.t156) := ty_fact Tryz.type156 Tryz.underlying156 (by kernel_rfl)
theorem tyF157 : TyFact Tryz.prog 157 (mkTy Tryz.t156 Tryz.t157) := ty_fact Tryz.type157 Tryz.underlying157 (by kernel_rfl)
theorem tyF158 : TyFact Tryz.prog 158 (mkTy Tryz.t158 Tryz.t158) := ty_fact Tryz.type158 Tryz.underlying158 (by kernel_rfl)
theorem tyF159 : TyFact Tryz.prog 159 (mkTy Tryz.t159 Tryz.t159) := ty_fact Tryz.type159 Tryz.underlying159 (by kernel_rfl)
theorem tyF160 : TyFact Tryz.prog 160 (mkTy Tryz.t160 Tryz.t160) := ty_fact Tryz.type160 Tryz.underlying160 (by kernel_rfl)
theorem tyF161 : TyFact Tryz.prog 161 (mkTy Tryz.t22 Tryz.t161) := ty_fact Tryz.type161 Tryz.underlying161 (by kernel_rfl)
theorem tyF162 : TyFact Tryz.prog 162 (mkTy Tryz.t162 Tryz.t162) := ty_fact Tryz.type162 Tryz.underlying162 (by kernel_rfl)
theorem tyF163 : TyFact Tryz.prog 163 (mkTy Tryz.t163 Tryz.t163) := ty_fact Tryz.type163 Tryz.underlying163 (by kernel_rfl)
theorem tyF164 : TyFact Tryz.prog 164 (mkTy Tryz.t164 Tryz.t164) := ty_fact Tryz.type164 Tryz.underlying164 (by kernel_rfl)
theorem tyF165 : TyFact Tryz.prog 165 (mkTy Tryz.t165 Tryz.t165) := ty_fact Tryz.type165 Tryz.underlying165 (by kernel_rfl)
theorem tyF166 : TyFact Tryz.prog 166 (mkTy Tryz.t166 Tryz.t166) := ty_fact Tryz.type166 Tryz.underlying166 (by kernel_rfl)
theorem tyF167 : TyFact Tryz.prog 167 (mkTy Tryz.t167 Tryz.t167) := ty_fact Tryz.type167 Tryz.underlying167 (by kernel_rfl)
theorem tyF168 : TyFact Tryz.prog 168 (mkTy Tryz.t168 Tryz.t168) := ty_fact Tryz.type168 Tryz.underlying168 (by kernel_rfl)
theorem tyF169 : TyFact Tryz.prog 169 (mkTy Tryz.t169 Tryz.t169) := ty_fact Tryz.type169 Tryz.underlying169 (by kernel_rfl)
theorem tyF170 : TyFact Tryz.prog 170 (mkTy Tryz.t170 Tryz.t170) := ty_fact Tryz.type170 Tryz.underlying170 (by kernel_rfl)
theorem tyF171 : TyFact Tryz.prog 171 (mkTy Tryz.t171 Tryz.t171) := ty_fact Tryz.type171 Tryz.underlying171 (by kernel_rfl)
theorem tyF172 : TyFact Tryz.prog 172 (mkTy Tryz.t172 Tryz.t172) := ty_fact Tryz.type172 Tryz.underlying172 (by kernel_rfl)
theorem tyF173 : TyFact Tryz.prog 173 (mkTy Tryz.t173 Tryz.t173) := ty_fact Tryz.type173 Tryz.underlying173 (by kernel_rfl)
theorem tyF174 : TyFact Tryz.prog 174 (mkTy Tryz.t174 Tryz.t174) := ty_fact Tryz.type174 Tryz.underlying174 (by kernel_rfl)
theorem tyF175 : TyFact Tryz.prog 175 (mkTy Tryz.t175 Tryz.t175) := ty_fact Tryz.type175 Tryz.underlying175 (by kernel_rfl)
theorem tyF176 : TyFact Tryz.prog 176 (mkTy Tryz.t176 Tryz.t176) := ty_fact Tryz.type176 Tryz.underlying176 (by kernel_rfl)
theorem tyF177 : TyFact Tryz.prog 177 (mkTy Tryz.t177 Tryz.t177) := ty_fact Tryz.type177 Tryz.underlying177 (by kernel_rfl)
theorem tyF178 : TyFact Tryz.prog 178 (mkTy Tryz.t178 Tryz.t178) := ty_fact Tryz.type178 Tryz.underlying178 (by kernel_rfl)
theorem tyF179 : TyFact Tryz.prog 179 (mkTy Tryz.t179 Tryz.t179) := ty_fact Tryz.type179 Tryz.underlying179 (by kernel_rfl)
theorem tyF180 : TyFact Tryz.prog 180 (mkTy Tryz.t180 Tryz.t180) := ty_fact Tryz.type180 Tryz.underlying180 (by kernel_rfl)
theorem tyF181 : TyFact Tryz.prog 181 (mkTy Tryz.t181 Tryz.t181) := ty_fact Tryz.type181 Tryz.underlying181 (by kernel_rfl)
theorem tyF182 : TyFact Tryz.prog 182 (mkTy Tryz.t182 Tryz.t182) := ty_fact Tryz.type182 Tryz.underlying182 (by kernel_rfl)
theorem tyF183 : TyFact Tryz.prog 183 (mkTy Tryz.t183 Tryz.t183) := ty_fact Tryz.type183 Tryz.underlying183 (by kernel_rfl)
theorem tyF184 : TyFact Tryz.prog 184 (mkTy Tryz.t184 Tryz.t184) := ty_fact Tryz.type184 Tryz.underlying184 (by kernel_rfl)
theorem tyF185 : TyFact Tryz.prog 185 (mkTy Tryz.t185 Tryz.t185) := ty_fact Tryz.type185 Tryz.underlying185 (by kernel_rfl)
theorem tyF186 : TyFact Tryz.prog 186 (mkTy Tryz.t186 Tryz.t186) := ty_fact Tryz.type186 Tryz.underlying186 (by kernel_rfl)
theorem tyF187 : TyFact Tryz.prog 187 (mkTy Tryz.t187 Tryz.t187) := ty_fact Tryz.type187 Tryz.underlying187 (by kernel_rfl)
theorem tyF188 : TyFact Tryz.prog 188 (mkTy Tryz.t188 Tryz.t188) := ty_fact Tryz.type188 Tryz.underlying188 (by kernel_rfl)
theorem tyF189 : TyFact Tryz.prog 189 (mkTy Tryz.t189 Tryz.t189) := ty_fact Tryz.type189 Tryz.underlying189 (by kernel_rfl)
theorem tyF190 : TyFact Tryz.prog 190 (mkTy Tryz.t190 Tryz.t190) := ty_fact Tryz.type190 Tryz.underlying190 (by kernel_rfl)
theorem tyF191 : TyFact Tryz.prog 191 (mkTy Tryz.t191 Tryz.t191) := ty_fact Tryz.type191 Tryz.underlying191 (by kernel_rfl)
theorem tyF192 : TyFact Tryz.prog 192 (mkTy Tryz.t192 Tryz.t192) := ty_fact Tryz.type192 Tryz.underlying192 (by kernel_rfl)
theorem tyF193 : TyFact Tryz.prog 193 (mkTy Tryz.t193 Tryz.t193) := ty_fact Tryz.type193 Tryz.underlying193 (by kernel_rfl)
theorem tyF194 : TyFact Tryz.prog 194 (mkTy Tryz.t194 Tryz.t194) := ty_fact Tryz.type194 Tryz.underlying194 (by kernel_rfl)
theorem tyF195 : TyFact Tryz.prog 195 (mkTy Tryz.t195 Tryz.t195) := ty_fact Tryz.type195 Tryz.underlying195 (by kernel_rfl)
theorem tyF196 : TyFact Tryz.prog 196 (mkTy Tryz.t196 Tryz.t196) := ty_fact Tryz.type196 Tryz.underlying196 (by kernel_rfl)
theorem tyF197 : TyFact Tryz.prog 197 (mkTy Tryz.t197 Tryz.t197) := ty_fact Tryz.type197 Tryz.underlying197 (by kernel_rfl)
theorem tyF198 : TyFact Tryz.prog 198 (mkTy Tryz.t198 Tryz.t198) := ty_fact Tryz.type198 Tryz.underlying198 (by kernel_rfl)
theorem tyF199 : TyFact Tryz.prog 199 (mkTy Tryz.t3 Tryz.t199) := ty_fact Tryz.type199 Tryz.underlying199 (by kernel_rfl)
theorem tyF200 : TyFact Tryz.prog 200 (mkTy Tryz.t200 Tryz.t200) := ty_fact Tryz.type200 Tryz.underlying200 (by kernel_rfl)
theorem tyF201 : TyFact Tryz.prog 201 (mkTy Tryz.t201 Tryz.t201) := ty_fact Tryz.type201 Tryz.underlying201 (by kernel_rfl)
theorem tyF202 : TyFact Tryz.prog 202 (mkTy Tryz.t202 Tryz.t202) := ty_fact Tryz.type202 Tryz.underlying202 (by kernel_rfl)
theorem tyF203 : TyFact Tryz.prog 203 (mkTy Tryz.t203 Tryz.t203) := ty_fact Tryz.type203 Tryz.underlying203 (by kernel_rfl)
theorem tyF204 : TyFact Tryz.prog 204 (mkTy Tryz.t204 Tryz.t204) := ty_fact Tryz.type204 Tryz.underlying204 (by kernel_rfl)
theorem tyF205 : TyFact Tryz.prog 205 (mkTy Tryz.t205 Tryz.t205) := ty_fact Tryz.type205 Tryz.underlying205 (by kernel_rfl)
theorem tyF206 : TyFact Tryz.prog 206 (mkTy Tryz.t206 Tryz.t206) := ty_fact Tryz.type206 Tryz.underlying206 (by kernel_rfl)
theorem tyF207 : TyFact Tryz.prog 207 (mkTy Tryz.t207 Tryz.t207) := ty_fact Tryz.type207 Tryz.underlying207 (by kernel_rfl)
theorem tyF208 : TyFact Tryz.prog 208 (mkTy Tryz.t208 Tryz.t208) := ty_fact Tryz.type208 Tryz.underlying208 (by kernel_rfl)
theorem tyF209 : TyFact Tryz.prog 209 (mkTy Tryz.t209 Tryz.t209) := ty_fact Tryz.type209 Tryz.underlying209 (by kernel_rfl)
theorem tyF210 : TyFact Tryz.prog 210 (mkTy Tryz.t210 Tryz.t210) := ty_fact Tryz.type210 Tryz.underlying210 (by kernel_rfl)
theorem tyF211 : TyFact Tryz.prog 211 (mkTy Tryz.t211 Tryz.t211) := ty_fact Tryz.type211 Tryz.underlying211 (by kernel_rfl)
theorem tyF212 : TyFact Tryz.prog 212 (mkTy Tryz.t212 Tryz.t212) := ty_fact Tryz.type212 Tryz.underlying212 (by kernel_rfl)
theorem tyF213 : TyFact Tryz.prog 213 (mkTy Tryz.t213 Tryz.t213) := ty_fact Tryz.type213 Tryz.underlying213 (by kernel_rfl)
theorem tyF214 : TyFact Tryz.prog 214 (mkTy Tryz.t214 Tryz.t214) := ty_fact Tryz.type214 Tryz.underlying214 (by kernel_rfl)
theorem tyF215 : TyFact Tryz.prog 215 (mkTy Tryz.t215 Tryz.t215) := ty_fact Tryz.type215 Tryz.underlying215 (by kernel_rfl)
theorem tyF216 : TyFact Tryz.prog 216 (mkTy Tryz.t216 Tryz.t216) := ty_fact Tryz.type216 Tryz.underlying216 (by kernel_rfl)
theorem tyF217 : TyFact Tryz.prog 217 (mkTy Tryz.t217 Tryz.t217) := ty_fact Tryz.type217 Tryz.underlying217 (by kernel_rfl)
theorem tyF218 : TyFact Tryz.prog 218 (mkTy Tryz.t218 Tryz.t218) := ty_fact Tryz.type218 Tryz.underlying218 (by kernel_rfl)
theorem tyF219 : TyFact Tryz.prog 219 (mkTy Tryz.t219 Tryz.t219) := ty_fact Tryz.type219 Tryz.underlying219 (by kernel_rfl)
theorem tyF220 : TyFact Tryz.prog 220 (mkTy Tryz.t220 Tryz.t220) := ty_fact Tryz.type220 Tryz.underlying220 (by kernel_rfl)
theorem tyF221 : TyFact Tryz.prog 221 (mkTy Tryz.t208 Tryz.t221) := ty_fact Tryz.type221 Tryz.underlying221 (by kernel_rfl)
theorem tyF222 : TyFact Tryz.prog 222 (mkTy Tryz.t222 Tryz.t222) := ty_fact Tryz.type222 Tryz.underlying222 (by kernel_rfl)
theorem tyF223 : TyFact Tryz.prog 223 (mkTy Tryz.t223 Tryz.t223) := ty_fact Tryz.type223 Tryz.underlying223 (by kernel_rfl)
theorem tyF224 : TyFact Tryz.prog 224 (mkTy Tryz.t224 Tryz.t224) := ty_fact Tryz.type224 Tryz.underlying224 (by kernel_rfl)
theorem tyF225 : TyFact Tryz.prog 225 (mkTy Tryz.t225 Tryz.t225) := ty_fact Tryz.type225 Tryz.underlying225 (by kernel_rfl)
theorem tyF226 : TyFact Tryz.prog 226 (mkTy Tryz.t226 Tryz.t226) := ty_fact Tryz.type226 Tryz.underlying226 (by kernel_rfl)
theorem tyF227 : TyFact Tryz.prog 227 (mkTy Tryz.t227 Tryz.t227) := ty_fact Tryz.type227 Tryz.underlying227 (by kernel_rfl)
theorem tyF228 : TyFact Tryz.prog 228 (mkTy Tryz.t228 Tryz.t228) := ty_fact Tryz.type228 Tryz.underlying228 (by kernel_rfl)
theorem tyF229 : TyFact Tryz.prog 229 (mkTy Tryz.t229 Tryz.t229) := ty_fact Tryz.type229 Tryz.underlying229 (by kernel_rfl)
theorem tyF230 : TyFact Tryz.prog 230 (mkTy Tryz.t230 Tryz.t230) := ty_fact Tryz.type230 Tryz.underlying230 (by kernel_rfl)
theorem tyF231 : TyFact Tryz.prog 231 (mkTy Tryz.t231 Tryz.t231) := ty_fact Tryz.type231 Tryz.underlying231 (by kernel_rfl)
theorem tyF232 : TyFact Tryz.prog 232 (mkTy Tryz.t232 Tryz.t232) := ty_fact Tryz.type232 Tryz.underlying232 (by kernel_rfl)
theorem tyF233 : TyFact Tryz.prog 233 (mkTy Tryz.t3 Tryz.t233) := ty_fact Tryz.type233 Tryz.underlying233 (by kernel_rfl)
theorem tyF234 : TyFact Tryz.prog 234 (mkTy Tryz.t234 Tryz.t234) := ty_fact Tryz.type234 Tryz.underlying234 (by kernel_rfl)
theorem tyF235 : TyFact Tryz.prog 235 (mkTy Tryz.t235 Tryz.t235) := ty_fact Tryz.type235 Tryz.underlying235 (by kernel_rfl)
theorem tyF236 : TyFact Tryz.prog 236 (mkTy Tryz.t236 Tryz.t236) := ty_fact Tryz.type236 Tryz.underlying236 (by kernel_rfl)
theorem tyF237 : TyFact Tryz.prog 237 (mkTy Tryz.t237 Tryz.t237) := ty_fact Tryz.type237 Tryz.underlying237 (by kernel_rfl)
theorem tyF238 : TyFact Tryz.prog 238 (mkTy Tryz.t238 Tryz.t238) := ty_fact Tryz.type238 Tryz.underlying238 (by kernel_rfl)
theorem tyF239 : TyFact Tryz.prog 239 (mkTy Tryz.t239 Tryz.t239) := ty_fact Tryz.type239 Tryz.underlying239 (by kernel_rfl)
theorem tyF240 : TyFact Tryz.prog 240 (mkTy Tryz.t240 Tryz.t240) := ty_fact Tryz.type240 Tryz.underlying240 (by kernel_rfl)
theorem tyF241 : TyFact Tryz.prog 241 (mkTy Tryz.t241 Tryz.t241) := ty_fact Tryz.type241 Tryz.underlying241 (by kernel_rfl)
theorem tyF242 : TyFact Tryz.prog 242 (mkTy Tryz.t242 Tryz.t242) := ty_fact Tryz.type242 Tryz.underlying242 (by kernel_rfl)
theorem tyF243 : TyFact Tryz.prog 243 (mkTy Tryz.t243 Tryz.t243) := ty_fact Tryz.type243 Tryz.underlying243 (by kernel_rfl)
theorem tyF244 : TyFact Tryz.prog 244 (mkTy Tryz.t244 Tryz.t244) := ty_fact Tryz.type244 Tryz.underlying244 (by kernel_rfl)
theorem tyF245 : TyFact Tryz.prog 245 (mkTy Tryz.t245 Tryz.t245) := ty_fact Tryz.type245 Tryz.underlying245 (by kernel_rfl)
theorem tyF246 : TyFact Tryz.prog 246 (mkTy Tryz.t246 Tryz.t246) := ty_fact Tryz.type246 Tryz.underlying246 (by kernel_rfl)
theorem tyF247 : TyFact Tryz.prog 247 (mkTy Tryz.t247 Tryz.t247) := ty_fact Tryz.type247 Tryz.underlying247 (by kernel_rfl)
theorem tyF248 : TyFact Tryz.prog 248 (mkTy Tryz.t248 Tryz.t248) := ty_fact Tryz.type248 Tryz.underlying248 (by kernel_rfl)
theorem tyF249 : TyFact Tryz.prog 249 (mkTy Tryz.t249 Tryz.t249) := ty_fact Tryz.type249 Tryz.underlying249 (by kernel_rfl)
theorem tyF250 : TyFact Tryz.prog 250 (mkTy Tryz.t250 Tryz.t250) := ty_fact Tryz.type250 Tryz.underlying250 (by kernel_rfl)
theorem tyF251 : TyFact Tryz.prog 251 (mkTy Tryz.t251 Tryz.t251) := ty_fact Tryz.type251 Tryz.underlying251 (by kernel_rfl)
theorem tyF252 : TyFact Tryz.prog 252 (mkTy Tryz.t251 Tryz.t252) := ty_fact Tryz.type252 Tryz.underlying252 (by kernel_rfl)
theorem tyF253 : TyFact Tryz.prog 253 (mkTy Tryz.t253 Tryz.t253) := ty_fact Tryz.type253 Tryz.underlying253 (by kernel_rfl)
theorem tyF254 : TyFact Tryz.prog 254 (mkTy Tryz.t254 Tryz.t254) := ty_fact Tryz.type254 Tryz.underlying254 (by kernel_rfl)
theorem tyF255 : TyFact Tryz.prog 255 (mkTy Tryz.t255 Tryz.t255) := ty_fact Tryz.type255 Tryz.underlying255 (by kernel_rfl)
theorem tyF256 : TyFact Tryz.prog 256 (mkTy Tryz.t256 Tryz.t256) := ty_fact Tryz.type256 Tryz.underlying256 (by kernel_rfl)
theorem tyF257 : TyFact Tryz.prog 257 (mkTy Tryz.t257 Tryz.t257) := ty_fact Tryz.type257 Tryz.underlying257 (by kernel_rfl)
theorem tyF258 : TyFact Tryz.prog 258 (mkTy Tryz.t258 Tryz.t258) := ty_fact Tryz.type258 Tryz.underlying258 (by kernel_rfl)
theorem tyF259 : TyFact Tryz.prog 259 (mkTy Tryz.t258 Tryz.t259) := ty_fact Tryz.type259 Tryz.underlying259 (by kernel_rfl)
theorem tyF260 : TyFact Tryz.prog 260 (mkTy Tryz.t260 Tryz.t260) := ty_fact Tryz.type260 Tryz.underlying260 (by kernel_rfl)
theorem tyF261 : TyFact Tryz.prog 261 (mkTy Tryz.t261 Tryz.t261) := ty_fact Tryz.type261 Tryz.underlying261 (by kernel_rfl)
theorem tyF262 : TyFact Tryz.prog 262 (mkTy Tryz.t261 Tryz.t262) := ty_fact Tryz.type262 Tryz.underlying262 (by kernel_rfl)
theorem tyF263 : TyFact Tryz.prog 263 (mkTy Tryz.t263 Tryz.t263) := ty_fact Tryz.type263 Tryz.underlying263 (by kernel_rfl)
theorem tyF264 : TyFact Tryz.prog 264 (mkTy Tryz.t264 Tryz.t264) := ty_fact Tryz.type264 Tryz.underlying264 (by kernel_rfl)
theorem tyF265 : TyFact Tryz.prog 265 (mkTy Tryz.t264 Tryz.t265) := ty_fact Tryz.type265 Tryz.underlying265 (by kernel_rfl)
theorem tyF266 : TyFact Tryz.prog 266 (mkTy Tryz.t266 Tryz.t266) := ty_fact Tryz.type266 Tryz.underlying266 (by kernel_rfl)
theorem tyF267 : TyFact Tryz.prog 267 (mkTy Tryz.t267 Tryz.t267) := ty_fact Tryz.type267 Tryz.underlying267 (by kernel_rfl)
theorem tyF268 : TyFact Tryz.prog 268 (mkTy Tryz.t267 Tryz.t268) := ty_fact Tryz.type268 Tryz.underlying268 (by kernel_rfl)
theorem tyF269 : TyFact Tryz.prog 269 (mkTy Tryz.t5 Tryz.t269) := ty_fact Tryz.type269 Tryz.underlying269 (by kernel_rfl)
theorem tyF270 : TyFact Tryz.prog 270 (mkTy Tryz.t5 Tryz.t270) := ty_fact Tryz.type270 Tryz.underlying270 (by kernel_rfl)
theorem tyF271 : TyFact Tryz.prog 271 (mkTy Tryz.t271 Tryz.t271) := ty_fact Tryz.type271 Tryz.underlying271 (by kernel_rfl)
theorem tyF272 : TyFact Tryz.prog 272 (mkTy Tryz.t21 Tryz.t272) := ty_fact Tryz.type272 Tryz.underlying272 (by kernel_rfl)
theorem tyF273 : TyFact Tryz.prog 273 (mkTy Tryz.t21 Tryz.t273) := ty_fact Tryz.type273 Tryz.underlying273 (by kernel_rfl)
theorem tyF274 : TyFact Tryz.prog 274 (mkTy Tryz.t274 Tryz.t274) := ty_fact Tryz.type274 Tryz.underlying274 (by kernel_rfl)
theorem tyF275 : TyFact Tryz.prog 275 (mkTy Tryz.t274 Tryz.t275) := ty_fact Tryz.type275 Tryz.underlying275 (by kernel_rfl)
noncomputable def tyTab : T TyI := (.node (some (mkTy Tryz.t0 Tryz.t0)) (.node (some (mkTy Tryz.t1 Tryz.t1)) (.node (some (mkTy Tryz.t3 Tryz.t3)) (.node (some (mkTy Tryz.t7 Tryz.t7)) (.node (some (mkTy Tryz.t15 Tryz.t15)) (.node (some (mkTy Tryz.t31 Tryz.t31)) (.node (some (mkTy Tryz.t63 Tryz.t63)) (.node (some (mkTy Tryz.t127 Tryz.t127)) (.node (some (mkTy Tryz.t255 Tryz.t255)) .nil .nil) .nil) (.node (some (mkTy Tryz.t191 Tryz.t191)) .nil .nil)) (.node (some (mkTy Tryz.t95 Tryz.t95)) (.node (some (mkTy Tryz.t159 Tryz.t159)) .nil .nil) (.node (some (mkTy Tryz.t223 Tryz.t223)) .nil .nil))) (.node (some (mkTy Tryz.t47 Tryz.t47)) (.node (some (mkTy Tryz.t79 Tryz.t79)) (.node (some (mkTy Tryz.t143 Tryz.t143)) (.node (some (mkTy Tryz.t271 Tryz.t271)) .nil .nil) .nil) (.node (some (mkTy Tryz.t207 Tryz.t207)) .nil .nil)) (.node (some (mkTy Tryz.t111 Tryz.t111)) (.node (some (mkTy Tryz.t175 Tryz.t175)) .nil .nil) (.node (some (mkTy Tryz.t239 Tryz.t239)) .nil .nil)))) (.node (some (mkTy Tryz.t22 Tryz.t23)) (.node (some (mkTy Tryz.t38 Tryz.t39)) (.node (some (mkTy Tryz.t71 Tryz.t71)) (.node (some (mkTy Tryz.t135 Tryz.t135)) (.node (some (mkTy Tryz.t263 Tryz.t263)) .nil .nil) .nil) (.node (some (mkTy Tryz.t3 Tryz.t199)) .nil .nil)) (.node (some (mkTy Tryz.t103 Tryz.t103)) (.node (some (mkTy Tryz.t167 Tryz.t167)) .nil .nil) (.node (some (mkTy Tryz.t231 Tryz.t231)) .nil .nil))) (.node (some (mkTy Tryz.t55 Tryz.t55)) (.node (some (mkTy Tryz.t87 Tryz.t87)) (.node (some (mkTy Tryz.t151 Tryz.t151)) .nil .nil) (.node (some (mkTy Tryz.t215 Tryz.t215)) .nil .nil)) (.node (some (mkTy Tryz.t119 Tryz.t119)) (.node (some (mkTy Tryz.t183 Tryz.t183)) .nil .nil) (.node (some (mkTy Tryz.t247 Tryz.t247)) .nil .nil))))) (.node (some (mkTy Tryz.t9 Tryz.t11)) (.node (some (mkTy Tryz.t18 Tryz.t19)) (.node (some (mkTy Tryz.t35 Tryz.t35)) (.node (some (mkTy Tryz.t67 Tryz.t67)) (.node (some (mkTy Tryz.t131 Tryz.t131)) (.node (some (mkTy Tryz.t258 Tryz.t259)) .nil .nil) .nil) (.node (some (mkTy Tryz.t195 Tryz.t195)) .nil .nil)) (.node (some (mkTy Tryz.t99 Tryz.t99)) (.node (some (mkTy Tryz.t163 Tryz.t163)) .nil .nil) (.node (some (mkTy Tryz.t227 Tryz.t227)) .nil .nil))) (.node (some (mkTy Tryz.t51 Tryz.t51)) (.node (some (mkTy Tryz.t83 Tryz.t83)) (.node (some (mkTy Tryz.t146 Tryz.t147)) (.node (some (mkTy Tryz.t274 Tryz.t275)) .nil .nil) .nil) (.node (some (mkTy Tryz.t211 Tryz.t211)) .nil .nil)) (.node (some (mkTy Tryz.t115 Tryz.t115)) (.node (some (mkTy Tryz.t179 Tryz.t179)) .nil .nil) (.node (some (mkTy Tryz.t243 Tryz.t243)) .nil .nil)))) (.node (some (mkTy Tryz.t3 Tryz.t27)) (.node (some (mkTy Tryz.t43 Tryz.t43)) (.node (some (mkTy Tryz.t75 Tryz.t75)) (.node (some (mkTy Tryz.t139 Tryz.t139)) (.node (some (mkTy Tryz.t267 Tryz.t267)) .nil .nil) .nil) (.node (some (mkTy Tryz.t203 Tryz.t203)) .nil .nil)) (.node (some (mkTy Tryz.t107 Tryz.t107)) (.node (some (mkTy Tryz.t171 Tryz.t171)) .nil .nil) (.node (some (mkTy Tryz.t235 Tryz.t235)) .nil .nil))) (.node (some (mkTy Tryz.t59 Tryz.t59)) (.node (some (mkTy Tryz.t91 Tryz.t91)) (.node (some (mkTy Tryz.t155 Tryz.t155)) .nil .nil) (.node (some (mkTy Tryz.t219 Tryz.t219)) .nil .nil)) (.node (some (mkTy Tryz.t123 Tryz.t123)) (.node (some (mkTy Tryz.t187 Tryz.t187)) .nil .nil) (.node (some (mkTy Tryz.t251 Tryz.t251)) .nil .nil)))))) (.node (some (mkTy Tryz.t5 Tryz.t5)) (.node (some (mkTy Tryz.t9 Tryz.t9)) (.node (some (mkTy Tryz.t17 Tryz.t17)) (.node (some (mkTy Tryz.t33 Tryz.t33)) (.node (some (mkTy Tryz.t65 Tryz.t65)) (.node (some (mkTy Tryz.t129 Tryz.t129)) (.node (some (mkTy Tryz.t257 Tryz.t257)) .nil .nil) .nil) (.node (some (mkTy Tryz.t193 Tryz.t193)) .nil .nil)) (.node (some (mkTy Tryz.t97 Tryz.t97)) (.node (some (mkTy Tryz.t22 Tryz.t161)) .nil .nil) (.node (some (mkTy Tryz.t225 Tryz.t225)) .nil .nil))) (.node (some (mkTy Tryz.t49 Tryz.t49)) (.node (some (mkTy Tryz.t81 Tryz.t81)) (.node (some (mkTy Tryz.t145 Tryz.t145)) (.node (some (mkTy Tryz.t21 Tryz.t273)) .nil .nil) .nil) (.node (some (mkTy Tryz.t209 Tryz.t209)) .nil .nil)) (.node (some (mkTy Tryz.t113 Tryz.t113)) (.node (some (mkTy Tryz.t177 Tryz.t177)) .nil .nil) (.node (some (mkTy Tryz.t241 Tryz.t241)) .nil .nil)))) (.node (some (mkTy Tryz.t25 Tryz.t25)) (.node (some (mkTy Tryz.t41 Tryz.t41)) (.node (some (mkTy Tryz.t73 Tryz.t73)) (.node (some (mkTy Tryz.t137 Tryz.t137)) (.node (some (mkTy Tryz.t264 Tryz.t265)) .nil .nil) .nil) (.node (some (mkTy Tryz.t201 Tryz.t201)) .nil .nil)) (.node (some (mkTy Tryz.t105 Tryz.t105)) (.node (some (mkTy Tryz.t169 Tryz.t169)) .nil .nil) (.node (some (mkTy Tryz.t3 Tryz.t233)) .nil .nil))) (.node (some (mkTy Tryz.t57 Tryz.t57)) (.node (some (mkTy Tryz.t89 Tryz.t89)) (.node (some (mkTy Tryz.t153 Tryz.t153)) .nil .nil) (.node (some (mkTy Tryz.t217 Tryz.t217)) .nil .nil)) (.node (some (mkTy Tryz.t22 Tryz.t121)) (.node (some (mkTy Tryz.t185 Tryz.t185)) .nil .nil) (.node (some (mkTy Tryz.t249 Tryz.t249)) .nil .nil))))) (.node (some (mkTy Tryz.t13 Tryz.t13)) (.node (some (mkTy Tryz.t21 Tryz.t21)) (.node (some (mkTy Tryz.t37 Tryz.t37)) (.node (some (mkTy Tryz.t69 Tryz.t69)) (.node (some (mkTy Tryz.t133 Tryz.t133)) (.node (some (mkTy Tryz.t261 Tryz.t261)) .nil .nil) .nil) (.node (some (mkTy Tryz.t197 Tryz.t197)) .nil .nil)) (.node (some (mkTy Tryz.t101 Tryz.t101)) (.node (some (mkTy Tryz.t165 Tryz.t165)) .nil .nil) (.node (some (mkTy Tryz.t229 Tryz.t229)) .nil .nil))) (.node (some (mkTy Tryz.t53 Tryz.t53)) (.node (some (mkTy Tryz.t85 Tryz.t85)) (.node (some (mkTy Tryz.t148 Tryz.t149)) .nil .nil) (.node (some (mkTy Tryz.t213 Tryz.t213)) .nil .nil)) (.node (some (mkTy Tryz.t117 Tryz.t117)) (.node (some (mkTy Tryz.t181 Tryz.t181)) .nil .nil) (.node (some (mkTy Tryz.t245 Tryz.t245)) .nil .nil)))) (.node (some (mkTy Tryz.t29 Tryz.t29)) (.node (some (mkTy Tryz.t38 Tryz.t45)) (.node (some (mkTy Tryz.t77 Tryz.t77)) (.node (some (mkTy Tryz.t141 Tryz.t141)) (.node (some (mkTy Tryz.t5 Tryz.t269)) .nil .nil) .nil) (.node (some (mkTy Tryz.t205 Tryz.t205)) .nil .nil)) (.node (some (mkTy Tryz.t109 Tryz.t109)) (.node (some (mkTy Tryz.t173 Tryz.t173)) .nil .nil) (.node (some (mkTy Tryz.t237 Tryz.t237)) .nil .nil))) (.node (some (mkTy Tryz.t61 Tryz.t61)) (.node (some (mkTy Tryz.t93 Tryz.t93)) (.node (some (mkTy Tryz.t156 Tryz.t157)) .nil .nil) (.node (some (mkTy Tryz.t208 Tryz.t221)) .nil .nil)) (.node (some (mkTy Tryz.t125 Tryz.t125)) (.node (some (mkTy Tryz.t189 Tryz.t189)) .nil .nil) (.node (some (mkTy Tryz.t253 Tryz.t253)) .nil .nil))))))) (.node (some (mkTy Tryz.t2 Tryz.t2)) (.node (some (mkTy Tryz.t4 Tryz.t4)) (.node (some (mkTy Tryz.t7 Tryz.t8)) (.node (some (mkTy Tryz.t16 Tryz.t16)) (.node (some (mkTy Tryz.t32 Tryz.t32)) (.node (some (mkTy Tryz.t64 Tryz.t64)) (.node (some (mkTy Tryz.t127 Tryz.t128)) (.node (some (mkTy Tryz.t256 Tryz.t256)) .nil .nil) .nil) (.node (some (mkTy Tryz.t192 Tryz.t192)) .nil .nil)) (.node (some (mkTy Tryz.t96 Tryz.t96)) (.node (some (mkTy Tryz.t160 Tryz.t160)) .nil .nil) (.node (some (mkTy Tryz.t224 Tryz.t224)) .nil .nil))) (.node (some (mkTy Tryz.t48 Tryz.t48)) (.node (some (mkTy Tryz.t80 Tryz.t80)) (.node (some (mkTy Tryz.t144 Tryz.t144)) (.node (some (mkTy Tryz.t21 Tryz.t272)) .nil .nil) .nil) (.node (some (mkTy Tryz.t208 Tryz.t208)) .nil .nil)) (.node (some (mkTy Tryz.t112 Tryz.t112)) (.node (some (mkTy Tryz.t176 Tryz.t176)) .nil .nil) (.node (some (mkTy Tryz.t240 Tryz.t240)) .nil .nil)))) (.node (some (mkTy Tryz.t24 Tryz.t24)) (.node (some (mkTy Tryz.t40 Tryz.t40)) (.node (some (mkTy Tryz.t72 Tryz.t72)) (.node (some (mkTy Tryz.t22 Tryz.t136)) (.node (some (mkTy Tryz.t264 Tryz.t264)) .nil .nil) .nil) (.node (some (mkTy Tryz.t200 Tryz.t200)) .nil .nil)) (.node (some (mkTy Tryz.t104 Tryz.t104)) (.node (some (mkTy Tryz.t168 Tryz.t168)) .nil .nil) (.node (some (mkTy Tryz.t232 Tryz.t232)) .nil .nil))) (.node (some (mkTy Tryz.t56 Tryz.t56)) (.node (some (mkTy Tryz.t88 Tryz.t88)) (.node (some (mkTy Tryz.t152 Tryz.t152)) .nil .nil) (.node (some (mkTy Tryz.t216 Tryz.t216)) .nil .nil)) (.node (some (mkTy Tryz.t120 Tryz.t120)) (.node (some (mkTy Tryz.t184 Tryz.t184)) .nil .nil) (.node (some (mkTy Tryz.t248 Tryz.t248)) .nil .nil))))) (.node (some (mkTy Tryz.t12 Tryz.t12)) (.node (some (mkTy Tryz.t20 Tryz.t20)) (.node (some (mkTy Tryz.t36 Tryz.t36)) (.node (some (mkTy Tryz.t68 Tryz.t68)) (.node (some (mkTy Tryz.t132 Tryz.t132)) (.node (some (mkTy Tryz.t260 Tryz.t260)) .nil .nil) .nil) (.node (some (mkTy Tryz.t196 Tryz.t196)) .nil .nil)) (.node (some (mkTy Tryz.t100 Tryz.t100)) (.node (some (mkTy Tryz.t164 Tryz.t164)) .nil .nil) (.node (some (mkTy Tryz.t228 Tryz.t228)) .nil .nil))) (.node (some (mkTy Tryz.t52 Tryz.t52)) (.node (some (mkTy Tryz.t84 Tryz.t84)) (.node (some (mkTy Tryz.t148 Tryz.t148)) .nil .nil) (.node (some (mkTy Tryz.t212 Tryz.t212)) .nil .nil)) (.node (some (mkTy Tryz.t116 Tryz.t116)) (.node (some (mkTy Tryz.t180 Tryz.t180)) .nil .nil) (.node (some (mkTy Tryz.t244 Tryz.t244)) .nil .nil)))) (.node (some (mkTy Tryz.t28 Tryz.t28)) (.node (some (mkTy Tryz.t44 Tryz.t44)) (.node (some (mkTy Tryz.t76 Tryz.t76)) (.node (some (mkTy Tryz.t140 Tryz.t140)) (.node (some (mkTy Tryz.t267 Tryz.t268)) .nil .nil) .nil) (.node (some (mkTy Tryz.t204 Tryz.t204)) .nil .nil)) (.node (some (mkTy Tryz.t108 Tryz.t108)) (.node (some (mkTy Tryz.t172 Tryz.t172)) .nil .nil) (.node (some (mkTy Tryz.t236 Tryz.t236)) .nil .nil))) (.node (some (mkTy Tryz.t59 Tryz.t60)) (.node (some (mkTy Tryz.t92 Tryz.t92)) (.node (some (mkTy Tryz.t156 Tryz.t156)) .nil .nil) (.node (some (mkTy Tryz.t220 Tryz.t220)) .nil .nil)) (.node (some (mkTy Tryz.t124 Tryz.t124)) (.node (some (mkTy Tryz.t188 Tryz.t188)) .nil .nil) (.node (some (mkTy Tryz.t251 Tryz.t252)) .nil .nil)))))) (.node (some (mkTy Tryz.t5 Tryz.t6)) (.node (some (mkTy Tryz.t9 Tryz.t10)) (.node (some (mkTy Tryz.t18 Tryz.t18)) (.node (some (mkTy Tryz.t34 Tryz.t34)) (.node (some (mkTy Tryz.t66 Tryz.t66)) (.node (some (mkTy Tryz.t130 Tryz.t130)) (.node (some (mkTy Tryz.t258 Tryz.t258)) .nil .nil) .nil) (.node (some (mkTy Tryz.t194 Tryz.t194)) .nil .nil)) (.node (some (mkTy Tryz.t98 Tryz.t98)) (.node (some (mkTy Tryz.t162 Tryz.t162)) .nil .nil) (.node (some (mkTy Tryz.t226 Tryz.t226)) .nil .nil))) (.node (some (mkTy Tryz.t50 Tryz.t50)) (.node (some (mkTy Tryz.t82 Tryz.t82)) (.node (some (mkTy Tryz.t146 Tryz.t146)) (.node (some (mkTy Tryz.t274 Tryz.t274)) .nil .nil) .nil) (.node (some (mkTy Tryz.t210 Tryz.t210)) .nil .nil)) (.node (some (mkTy Tryz.t114 Tryz.t114)) (.node (some (mkTy Tryz.t178 Tryz.t178)) .nil .nil) (.node (some (mkTy Tryz.t242 Tryz.t242)) .nil .nil)))) (.node (some (mkTy Tryz.t26 Tryz.t26)) (.node (some (mkTy Tryz.t42 Tryz.t42)) (.node (some (mkTy Tryz.t74 Tryz.t74)) (.node (some (mkTy Tryz.t138 Tryz.t138)) (.node (some (mkTy Tryz.t266 Tryz.t266)) .nil .nil) .nil) (.node (some (mkTy Tryz.t202 Tryz.t202)) .nil .nil)) (.node (some (mkTy Tryz.t106 Tryz.t106)) (.node (some (mkTy Tryz.t170 Tryz.t170)) .nil .nil) (.node (some (mkTy Tryz.t234 Tryz.t234)) .nil .nil))) (.node (some (mkTy Tryz.t58 Tryz.t58)) (.node (some (mkTy Tryz.t90 Tryz.t90)) (.node (some (mkTy Tryz.t154 Tryz.t154)) .nil .nil) (.node (some (mkTy Tryz.t218 Tryz.t218)) .nil .nil)) (.node (some (mkTy Tryz.t122 Tryz.t122)) (.node (some (mkTy Tryz.t186 Tryz.t186)) .nil .nil) (.node (some (mkTy Tryz.t250 Tryz.t250)) .nil .nil))))) (.node (some (mkTy Tryz.t13 Tryz.t14)) (.node (some (mkTy Tryz.t22 Tryz.t22)) (.node (some (mkTy Tryz.t38 Tryz.t38)) (.node (some (mkTy Tryz.t70 Tryz.t70)) (.node (some (mkTy Tryz.t134 Tryz.t134)) (.node (some (mkTy Tryz.t261 Tryz.t262)) .nil .nil) .nil) (.node (some (mkTy Tryz.t198 Tryz.t198)) .nil .nil)) (.node (some (mkTy Tryz.t102 Tryz.t102)) (.node (some (mkTy Tryz.t166 Tryz.t166)) .nil .nil) (.node (some (mkTy Tryz.t230 Tryz.t230)) .nil .nil))) (.node (some (mkTy Tryz.t54 Tryz.t54)) (.node (some (mkTy Tryz.t86 Tryz.t86)) (.node (some (mkTy Tryz.t150 Tryz.t150)) .nil .nil) (.node (some (mkTy Tryz.t214 Tryz.t214)) .nil .nil)) (.node (some (mkTy Tryz.t118 Tryz.t118)) (.node (some (mkTy Tryz.t182 Tryz.t182)) .nil .nil) (.node (some (mkTy Tryz.t246 Tryz.t246)) .nil .nil)))) (.node (some (mkTy Tryz.t30 Tryz.t30)) (.node (some (mkTy Tryz.t46 Tryz.t46)) (.node (some (mkTy Tryz.t78 Tryz.t78)) (.node (some (mkTy Tryz.t142 Tryz.t142)) (.node (some (mkTy Tryz.t5 Tryz.t270)) .nil .nil) .nil) (.node (some (mkTy Tryz.t206 Tryz.t206)) .nil .nil)) (.node (some (mkTy Tryz.t110 Tryz.t110)) (.node (some (mkTy Tryz.t174 Tryz.t174)) .nil .nil) (.node (some (mkTy Tryz.t238 Tryz.t238)) .nil .nil))) (.node (some (mkTy Tryz.t62 Tryz.t62)) (.node (some (mkTy Tryz.t94 Tryz.t94)) (.node (some (mkTy Tryz.t158 Tryz.t158)) .nil .nil) (.node (some (mkTy Tryz.t222 Tryz.t222)) .nil .nil)) (.node (some (mkTy Tryz.t126 Tryz.t126)) (.node (some (mkTy Tryz.t190 Tryz.t190)) .nil .nil) (.node (some (mkTy Tryz.t254 Tryz.t254)) .nil .nil))))))))
noncomputable def fnTab : T Func := (.node none (.node none (.node (some Tryz.f3) (.node (some Tryz.f7) (.node (some Tryz.f15) (.node (some Tryz.f31) (.node (some Tryz.f63) (.node (some Tryz.f127) .nil .nil) (.node (some Tryz.f191) .nil .nil)) (.node (some Tryz.f95) (.node (some Tryz.f159) .nil .nil) .nil)) (.node (some Tryz.f47) (.node (some Tryz.f79) (.node (some Tryz.f143) .nil .nil) (.node (some Tryz.f207) .nil .nil)) (.node (some Tryz.f111) (.node (some Tryz.f175) .nil .nil) .nil))) (.node (some Tryz.f23) (.node (some Tryz.f39) (.node (some Tryz.f71) (.node (some Tryz.f135) .nil .nil) (.node (some Tryz.f199) .nil .nil)) (.node (some Tryz.f103) (.node (some Tryz.f167) .nil .nil) .nil)) (.node (some Tryz.f55) (.node (some Tryz.f87) (.node (some Tryz.f151) .nil .nil) (.node (some Tryz.f215) .nil .nil)) (.node (some Tryz.f119) (.node (some Tryz.f183) .nil .nil) .nil)))) (.node (some Tryz.f11) (.node (some Tryz.f19) (.node (some Tryz.f35) (.node (some Tryz.f67) (.node (some Tryz.f131) .nil .nil) (.node (some Tryz.f195) .nil .nil)) (.node (some Tryz.f99) (.node (some Tryz.f163) .nil .nil) .nil)) (.node (some Tryz.f51) (.node (some Tryz.f83) (.node (some Tryz.f147) .nil .nil) (.node (some Tryz.f211) .nil .nil)) (.node (some Tryz.f115) .nil .nil))) (.node (some Tryz.f27) (.node (some Tryz.f43) (.node (some Tryz.f75) (.node (some Tryz.f139) .nil .nil) (.node (some Tryz.f203) .nil .nil)) (.node (some Tryz.f107) (.node (some Tryz.f171) .nil .nil) .nil)) (.node (some Tryz.f59) (.node (some Tryz.f91) (.node (some Tryz.f155) .nil .nil) (.node (some Tryz.f219) .nil .nil)) (.node (some Tryz.f123) (.node (some Tryz.f187) .nil .nil) .nil))))) (.node (some Tryz.f5) (.node (some Tryz.f9) (.node (some Tryz.f17) (.node (some Tryz.f33) (.node (some Tryz.f65) (.node (some Tryz.f129) .nil .nil) (.node (some Tryz.f193) .nil .nil)) (.node (some Tryz.f97) (.node (some Tryz.f161) .nil .nil) .nil)) (.node (some Tryz.f49) (.node (some Tryz.f81) (.node (some Tryz.f145) .nil .nil) (.node (some Tryz.f209) .nil .nil)) (.node (some Tryz.f113) (.node (some Tryz.f177) .nil .nil) .nil))) (.node (some Tryz.f25) (.node (some Tryz.f41) (.node (some Tryz.f73) (.node (some Tryz.f137) .nil .nil) (.node (some Tryz.f201) .nil .nil)) (.node (some Tryz.f105) (.node (some Tryz.f169) .nil .nil) .nil)) (.node (some Tryz.f57) (.node (some Tryz.f89) (.node (some Tryz.f153) .nil .nil) (.node (some Tryz.f217) .nil .nil)) (.node (some Tryz.f121) (.node (some Tryz.f185) .nil .nil) (.node (some Tryz.f249) .nil .nil))))) (.node (some Tryz.f13) (.node (some Tryz.f21) (.node (some Tryz.f37) (.node (some Tryz.f69) (.node (some Tryz.f133) .nil .nil) (.node (some Tryz.f197) .nil .nil)) (.node (some Tryz.f101) (.node (some Tryz.f165) .nil .nil) .nil)) (.node (some Tryz.f53) (.node (some Tryz.f85) .nil (.node (some Tryz.f213) .nil .nil)) (.node (some Tryz.f117) (.node (some Tryz.f181) .nil .nil) .nil))) (.node (some Tryz.f29) (.node (some Tryz.f45) (.node (some Tryz.f77) (.node (some Tryz.f141) .nil .nil) (.node (some Tryz.f205) .nil .nil)) (.node (some Tryz.f109) (.node (some Tryz.f173) .nil .nil) .nil)) (.node (some Tryz.f61) (.node (some Tryz.f93) (.node (some Tryz.f157) .nil .nil) .nil) (.node (some Tryz.f125) (.node (some Tryz.f189) .nil .nil) .nil)))))) (.node (some Tryz.f2) (.node (some Tryz.f4) (.node (some Tryz.f8) (.node (some Tryz.f16) (.node (some Tryz.f32) (.node (some Tryz.f64) (.node (some Tryz.f128) .nil .nil) (.node (some Tryz.f192) .nil .nil)) (.node (some Tryz.f96) (.node (some Tryz.f160) .nil .nil) .nil)) (.node (some Tryz.f48) (.node (some Tryz.f80) (.node (some Tryz.f144) .nil .nil) .nil) (.node (some Tryz.f112) (.node (some Tryz.f176) .nil .nil) .nil))) (.node (some Tryz.f24) (.node (some Tryz.f40) (.node (some Tryz.f72) (.node (some Tryz.f136) .nil .nil) (.node (some Tryz.f200) .nil .nil)) (.node (some Tryz.f104) (.node (some Tryz.f168) .nil .nil) .nil)) (.node (some Tryz.f56) (.node (some Tryz.f88) (.node (some Tryz.f152) .nil .nil) (.node (some Tryz.f216) .nil .nil)) (.node (some Tryz.f120) (.node (some Tryz.f184) .nil .nil) .nil)))) (.node (some Tryz.f12) (.node (some Tryz.f20) (.node (some Tryz.f36) (.node (some Tryz.f68) (.node (some Tryz.f132) .nil .nil) (.node (some Tryz.f196) .nil .nil)) (.node (some Tryz.f100) (.node (some Tryz.f164) .nil .nil) .nil)) (.node (some Tryz.f52) (.node (some Tryz.f84) (.node (some Tryz.f148) .nil .nil) (.node (some Tryz.f212) .nil .nil)) (.node (some Tryz.f116) (.node (some Tryz.f180) .nil .nil) .nil))) (.node (some Tryz.f28) (.node (some Tryz.f44) (.node (some Tryz.f76) (.node (some Tryz.f140) .nil .nil) (.node (some Tryz.f204) .nil .nil)) (.node (some Tryz.f108) (.node (some Tryz.f172) .nil .nil) .nil)) (.node (some Tryz.f60) (.node (some Tryz.f92) (.node (some Tryz.f156) .nil .nil) .nil) (.node (some Tryz.f124) (.node (some Tryz.f188) .nil .nil) .nil))))) (.node (some Tryz.f6) (.node (some Tryz.f10) (.node (some Tryz.f18) (.node (some Tryz.f34) (.node (some Tryz.f66) (.node (some Tryz.f130) .nil .nil) (.node (some Tryz.f194) .nil .nil)) (.node (some Tryz.f98) (.node (some Tryz.f162) .nil .nil) .nil)) (.node (some Tryz.f50) (.node (some Tryz.f82) (.node (some Tryz.f146) .nil .nil) (.node (some Tryz.f210) .nil .nil)) (.node (some Tryz.f114) (.node (some Tryz.f178) .nil .nil) .nil))) (.node (some Tryz.f26) (.node (some Tryz.f42) (.node (some Tryz.f74) (.node (some Tryz.f138) .nil .nil) (.node (some Tryz.f202) .nil .nil)) (.node (some Tryz.f106) (.node (some Tryz.f170) .nil .nil) .nil)) (.node (some Tryz.f58) (.node (some Tryz.f90) (.node (some Tryz.f154) .nil .nil) (.node (some Tryz.f218) .nil .nil)) (.node (some Tryz.f122) (.node (some Tryz.f186) .nil .nil) .nil)))) (.node (some Tryz.f14) (.node (some Tryz.f22) (.node (some Tryz.f38) (.node (some Tryz.f70) (.node (some Tryz.f134) .nil .nil) .nil) (.node (some Tryz.f102) (.node (some Tryz.f166) .nil .nil) .nil)) (.node (some Tryz.f54) (.node (some Tryz.f86) (.node (some Tryz.f150) .nil .nil) (.node (some Tryz.f214) .nil .nil)) (.node (some Tryz.f118) (.node (some Tryz.f182) .nil .nil) .nil))) (.node (some Tryz.f30) (.node (some Tryz.f46) (.node (some Tryz.f78) (.node (some Tryz.f142) .nil .nil) (.node (some Tryz.f206) .nil .nil)) (.node (some Tryz.f110) (.node (some Tryz.f174) .nil .nil) .nil)) (.node (some Tryz.f62) (.node (some Tryz.f94) (.node (some Tryz.f158) .nil .nil) .nil) (.node (some Tryz.f126) (.node (some Tryz.f190) .nil .nil) .nil)))))))
theorem fnAll : T.All (FnFact Tryz.prog) fnTab (fun j => j) := ⟨nofun, ⟨nofun, ⟨(all_some ⟨Tryz.func3, fnI3⟩), ⟨(all_some ⟨Tryz.func7, fnI7⟩), ⟨(all_some ⟨Tryz.func15, fnI15⟩), ⟨(all_some ⟨Tryz.func31, fnI31⟩), ⟨(all_some ⟨Tryz.func63, fnI63⟩), ⟨(all_some ⟨Tryz.func127, fnI127⟩), trivial, trivial⟩, ⟨(all_some ⟨Tryz.func191, fnI191⟩), trivial, trivial⟩⟩, ⟨(all_some ⟨Tryz.func95, fnI95⟩), ⟨(all_some ⟨Tryz.func159, fnI159⟩), trivial, trivial⟩, trivial⟩⟩, ⟨(all_some ⟨Tryz.func47, fnI47⟩), ⟨(all_some ⟨Tryz.func79, fnI79⟩), ⟨(all_some ⟨Tryz.func143, fnI143⟩), trivial, trivial⟩, ⟨(all_some ⟨Tryz.func207, fnI207⟩), trivial, trivial⟩⟩, ⟨(all_some ⟨Tryz.func111, fnI111⟩), ⟨(all_some ⟨Tryz.func175, fnI175⟩), trivial, trivial⟩, trivial⟩⟩⟩, ⟨(all_some ⟨Tryz.func23, fnI23⟩), ⟨(all_some ⟨Tryz.func39, fnI39⟩), ⟨(all_some ⟨Tryz.func71, fnI71⟩), ⟨(all_some ⟨Tryz.func135, fnI135⟩), trivial, trivial⟩, ⟨(all_some ⟨Tryz.func199, fnI199⟩), trivial, trivial⟩⟩, ⟨(all_some ⟨Tryz.func103, fnI103⟩), ⟨(all_some ⟨Tryz.func167, fnI167⟩), trivial, trivial⟩, trivial⟩⟩, ⟨(all_some ⟨Tryz.func55, fnI55⟩), ⟨(all_some ⟨Tryz.func87, fnI87⟩), ⟨(all_some ⟨Tryz.func151, fnI151⟩), trivial, trivial⟩, ⟨(all_some ⟨Tryz.func215, fnI215⟩), trivial, trivial⟩⟩, ⟨(all_some ⟨Tryz.func119, fnI119⟩), ⟨(all_some ⟨Tryz.func183, fnI183⟩), trivial, trivial⟩, trivial⟩⟩⟩⟩, ⟨(all_some ⟨Tryz.func11, fnI11⟩), ⟨(all_some ⟨Tryz.func19, fnI19⟩), ⟨(all_some ⟨Tryz.func35, fnI35⟩), ⟨(all_some ⟨Tryz.func67, fnI67⟩), ⟨(all_some ⟨Tryz.func131, fnI131⟩), trivial, trivial⟩, ⟨(all_some ⟨Tryz.func195, fnI195⟩), trivial, trivial⟩⟩, ⟨(all_some ⟨Tryz.func99, fnI99⟩), ⟨(all_some ⟨Tryz.func163, fnI163⟩), trivial, trivial⟩, trivial⟩⟩, ⟨(all_some ⟨Tryz.func51, fnI51⟩), ⟨(all_some ⟨Tryz.func83, fnI83⟩), ⟨(all_some ⟨Tryz.func147, fnI147⟩), trivial, trivial⟩, ⟨(all_some ⟨Tryz.func211, fnI211⟩), trivial, trivial⟩⟩, ⟨(all_some ⟨Tryz.func115, fnI115⟩), trivial, trivial⟩⟩⟩, ⟨(all_some ⟨Tryz.func27, fnI27⟩), ⟨(all_some ⟨Tryz.func43, fnI43⟩), ⟨(all_some ⟨Tryz.func75, fnI75⟩), ⟨(all_some ⟨Tryz.func139, fnI139⟩), trivial, trivial⟩, ⟨(all_some ⟨Tryz.func203, fnI203⟩), trivial, trivial⟩⟩, ⟨(all_some ⟨Tryz.func107, fnI107⟩), ⟨(all_some ⟨Tryz.func171, fnI171⟩), trivial, trivial⟩, trivial⟩⟩, ⟨(all_some ⟨Tryz.func59, fnI59⟩), ⟨(all_some ⟨Tryz.func91, fnI91⟩), ⟨(all_some ⟨Tryz.func155, fnI155⟩), trivial, trivial⟩, ⟨(all_some ⟨Tryz.func219, fnI219⟩), trivial, trivial⟩⟩, ⟨(all_some ⟨Tryz.func123, fnI123⟩), ⟨(all_some ⟨Tryz.func187, fnI187⟩), trivial, trivial⟩, trivial⟩⟩⟩⟩⟩, ⟨(all_some ⟨Tryz.func5, fnI5⟩), ⟨(all_some ⟨Tryz.func9, fnI9⟩), ⟨(all_some ⟨Tryz.func17, fnI17⟩), ⟨(all_some ⟨Tryz.func33, fnI33⟩), ⟨(all_some ⟨Tryz.func65, fnI65⟩), ⟨(all_some ⟨Tryz.func129, fnI129⟩), trivial, trivial⟩, ⟨(all_some ⟨Tryz.func193, fnI193⟩), trivial, trivial⟩⟩, ⟨(all_some ⟨Tryz.func97, fnI97⟩), ⟨(all_some ⟨Tryz.func161, fnI161⟩), trivial, trivial⟩, trivial⟩⟩, ⟨(all_some ⟨Tryz.func49, fnI49⟩), ⟨(all_some ⟨Tryz.func81, fnI81⟩), ⟨(all_some ⟨Tryz.func145, fnI145⟩), trivial, trivial⟩, ⟨(all_some ⟨Tryz.func209, fnI209⟩), trivial, trivial⟩⟩, ⟨(all_some ⟨Tryz.func113, fnI113⟩), ⟨(all_some ⟨Tryz.func177, fnI177⟩), trivial, trivial⟩, trivial⟩⟩⟩, ⟨(all_some ⟨Tryz.func25, fnI25⟩), ⟨(all_some ⟨Tryz.func41, fnI41⟩), ⟨(all_some ⟨Tryz.func73, fnI73⟩), ⟨(all_some ⟨Tryz.func137, fnI137⟩), trivial, trivial⟩, ⟨(all_some ⟨Tryz.func201, fnI201⟩), trivial, trivial⟩⟩, ⟨(all_some ⟨Tryz.func105, fnI105⟩), ⟨(all_some ⟨Tryz.func169, fnI169⟩), trivial, trivial⟩, trivial⟩⟩, ⟨(all_some ⟨Tryz.func57, fnI57⟩), ⟨(all_some ⟨Tryz.func89, fnI89⟩), ⟨(all_some ⟨Tryz.func153, fnI153⟩), trivial, trivial⟩, ⟨(all_some ⟨Tryz.func217, fnI217⟩), trivial, trivial⟩⟩, ⟨(all_some ⟨Tryz.func121, fnI121⟩), ⟨(all_some ⟨Tryz.func185, fnI185⟩), trivial, trivial⟩, ⟨(all_some ⟨Tryz.func249, fnI249⟩), trivial, trivial⟩⟩⟩⟩⟩, ⟨(all_some ⟨Tryz.func13, fnI13⟩), ⟨(all_some ⟨Tryz.func21, fnI21⟩), ⟨(all_some ⟨Tryz.func37, fnI37⟩), ⟨(all_some ⟨Tryz.func69, fnI69⟩), ⟨(all_some ⟨Tryz.func133, fnI133⟩), trivial, trivial⟩, ⟨(all_some ⟨Tryz.func197, fnI197⟩), trivial, trivial⟩⟩, ⟨(all_some ⟨Tryz.func101, fnI101⟩), ⟨(all_some ⟨Tryz.func165, fnI165⟩), trivial, trivial⟩, trivial⟩⟩, ⟨(all_some ⟨Tryz.func53, fnI53⟩), ⟨(all_some ⟨Tryz.func85, fnI85⟩), trivial, ⟨(all_some ⟨Tryz.func213, fnI213⟩), trivial, trivial⟩⟩, ⟨(all_some ⟨Tryz.func117, fnI117⟩), ⟨(all_some ⟨Tryz.func181, fnI181⟩), trivial, trivial⟩, trivial⟩⟩⟩, ⟨(all_some ⟨Tryz.func29, fnI29⟩), ⟨(all_some ⟨Tryz.func45, fnI45⟩), ⟨(all_some ⟨Tryz.func77, fnI77⟩), ⟨(all_some ⟨Tryz.func141, fnI141⟩), trivial, trivial⟩, ⟨(all_some ⟨Tryz.func205, fnI205⟩), trivial, trivial⟩⟩, ⟨(all_some ⟨Tryz.func109, fnI109⟩), ⟨(all_some ⟨Tryz.func173, fnI173⟩), trivial, trivial⟩, trivial⟩⟩, ⟨(all_some ⟨Tryz.func61, fnI61⟩), ⟨(all_some ⟨Tryz.func93, fnI93⟩), ⟨(all_some ⟨Tryz.func157, fnI157⟩), trivial, trivial⟩, trivial⟩, ⟨(all_some ⟨Tryz.func125, fnI125⟩), ⟨(all_some ⟨Tryz.func189, fnI189⟩), trivial, trivial⟩, trivial⟩⟩⟩⟩⟩⟩, ⟨(all_some ⟨Tryz.func2, fnI2⟩), ⟨(all_some ⟨Tryz.func4, fnI4⟩), ⟨(all_some ⟨Tryz.func8, fnI8⟩), ⟨(all_some ⟨Tryz.func16, fnI16⟩), ⟨(all_some ⟨Tryz.func32, fnI32⟩), ⟨(all_some ⟨Tryz.func64, fnI64⟩), ⟨(all_some ⟨Tryz.func128, fnI128⟩), trivial, trivial⟩, ⟨(all_some ⟨Tryz.func192, fnI192⟩), trivial, trivial⟩⟩, ⟨(all_some ⟨Tryz.func96, fnI96⟩), ⟨(all_some ⟨Tryz.func160, fnI160⟩), trivial, trivial⟩, trivial⟩⟩, ⟨(all_some ⟨Tryz.func48, fnI48⟩), ⟨(all_some ⟨Tryz.func80, fnI80⟩), ⟨(all_some ⟨Tryz.func144, fnI144⟩), trivial, trivial⟩, trivial⟩, ⟨(all_some ⟨Tryz.func112, fnI112⟩), ⟨(all_some ⟨Tryz.func176, fnI176⟩), trivial, trivial⟩, trivial⟩⟩⟩, ⟨(all_some ⟨Tryz.func24, fnI24⟩), ⟨(all_some ⟨Tryz.func40, fnI40⟩), ⟨(all_some ⟨Tryz.func72, fnI72⟩), ⟨(all_some ⟨Tryz.func136, fnI136⟩), trivial, trivial⟩, ⟨(all_some ⟨Tryz.func200, fnI200⟩), trivial, trivial⟩⟩, ⟨(all_some ⟨Tryz.func104, fnI104⟩), ⟨(all_some ⟨Tryz.func168, fnI168⟩), trivial, trivial⟩, trivial⟩⟩, ⟨(all_some ⟨Tryz.func56, fnI56⟩), ⟨(all_some ⟨Tryz.func88, fnI88⟩), ⟨(all_some ⟨Tryz.func152, fnI152⟩), trivial, trivial⟩, ⟨(all_some ⟨Tryz.func216, fnI216⟩), trivial, trivial⟩⟩, ⟨(all_some ⟨Tryz.func120, fnI120⟩), ⟨(all_some ⟨Tryz.func184, fnI184⟩), trivial, trivial⟩, trivial⟩⟩⟩⟩, ⟨(all_some ⟨Tryz.func12, fnI12⟩), ⟨(all_some ⟨Tryz.func20, fnI20⟩), ⟨(all_some ⟨Tryz.func36, fnI36⟩), ⟨(all_some ⟨Tryz.func68, fnI68⟩), ⟨(all_some ⟨Tryz.func132, fnI132⟩), trivial, trivial⟩, ⟨(all_some ⟨Tryz.func196, fnI196⟩), trivial, trivial⟩⟩, ⟨(all_some ⟨Tryz.func100, fnI100⟩), ⟨(all_some ⟨Tryz.func164, fnI164⟩), trivial, trivial⟩, trivial⟩⟩, ⟨(all_some ⟨Tryz.func52, fnI52⟩), ⟨(all_some ⟨Tryz.func84, fnI84⟩), ⟨(all_some ⟨Tryz.func148, fnI148⟩), trivial, trivial⟩, ⟨(all_some ⟨Tryz.func212, fnI212⟩), trivial, trivial⟩⟩, ⟨(all_some ⟨Tryz.func116, fnI116⟩), ⟨(all_some ⟨Tryz.func180, fnI180⟩), trivial, trivial⟩, trivial⟩⟩⟩, ⟨(all_some ⟨Tryz.func28, fnI28⟩), ⟨(all_some ⟨Tryz.func44, fnI44⟩), ⟨(all_some ⟨Tryz.func76, fnI76⟩), ⟨(all_some ⟨Tryz.func140, fnI140⟩), trivial, trivial⟩, ⟨(all_some ⟨Tryz.func204, fnI204⟩), trivial, trivial⟩⟩, ⟨(all_some ⟨Tryz.func108, fnI108⟩), ⟨(all_some ⟨Tryz.func172, fnI172⟩), trivial, trivial⟩, trivial⟩⟩, ⟨(all_some ⟨Tryz.func60, fnI60⟩), ⟨(all_some ⟨Tryz.func92, fnI92⟩), ⟨(all_some ⟨Tryz.func156, fnI156⟩), trivial, trivial⟩, trivial⟩, ⟨(all_some ⟨Tryz.func124, fnI124⟩), ⟨(all_some ⟨Tryz.func188, fnI188⟩), trivial, trivial⟩, trivial⟩⟩⟩⟩⟩, ⟨(all_some ⟨Tryz.func6, fnI6⟩), ⟨(all_some ⟨Tryz.func10, fnI10⟩), ⟨(all_some ⟨Tryz.func18, fnI18⟩), ⟨(all_some ⟨Tryz.func34, fnI34⟩), ⟨(all_some ⟨Tryz.func66, fnI66⟩), ⟨(all_some ⟨Tryz.func130, fnI130⟩), trivial, trivial⟩, ⟨(all_some ⟨Tryz.func194, fnI194⟩), trivial, trivial⟩⟩, ⟨(all_some ⟨Tryz.func98, fnI98⟩), ⟨(all_some ⟨Tryz.func162, fnI162⟩), trivial, trivial⟩, trivial⟩⟩, ⟨(all_some ⟨Tryz.func50, fnI50⟩), ⟨(all_some ⟨Tryz.func82, fnI82⟩), ⟨(all_some ⟨Tryz.func146, fnI146⟩), trivial, trivial⟩, ⟨(all_some ⟨Tryz.func210, fnI210⟩), trivial, trivial⟩⟩, ⟨(all_some ⟨Tryz.func114, fnI114⟩), ⟨(all_some ⟨Tryz.func178, fnI178⟩), trivial, trivial⟩, trivial⟩⟩⟩, ⟨(all_some ⟨Tryz.func26, fnI26⟩), ⟨(all_some ⟨Tryz.func42, fnI42⟩), ⟨(all_some ⟨Tryz.func74, fnI74⟩), ⟨(all_some ⟨Tryz.func138, fnI138⟩), trivial, trivial⟩, ⟨(all_some ⟨Tryz.func202, fnI202⟩), trivial, trivial⟩⟩, ⟨(all_some ⟨Tryz.func106, fnI106⟩), ⟨(all_some ⟨Tryz.func170, fnI170⟩), trivial, trivial⟩, trivial⟩⟩, ⟨(all_some ⟨Tryz.func58, fnI58⟩), ⟨(all_some ⟨Tryz.func90, fnI90⟩), ⟨(all_some ⟨Tryz.func154, fnI154⟩), trivial, trivial⟩, ⟨(all_some ⟨Tryz.func218, fnI218⟩), trivial, trivial⟩⟩, ⟨(all_some ⟨Tryz.func122, fnI122⟩), ⟨(all_some ⟨Tryz.func186, fnI186⟩), trivial, trivial⟩, trivial⟩⟩⟩⟩, ⟨(all_some ⟨Tryz.func14, fnI14⟩), ⟨(all_some ⟨Tryz.func22, fnI22⟩), ⟨(all_some ⟨Tryz.func38, fnI38⟩), ⟨(all_some ⟨Tryz.func70, fnI70⟩), ⟨(all_some ⟨Tryz.func134, fnI134⟩), trivial, trivial⟩, trivial⟩, ⟨(all_some ⟨Tryz.func102, fnI102⟩), ⟨(all_some ⟨Tryz.func166, fnI166⟩), trivial, trivial⟩, trivial⟩⟩, ⟨(all_some ⟨Tryz.func54, fnI54⟩), ⟨(all_some ⟨Tryz.func86, fnI86⟩), ⟨(all_some ⟨Tryz.func150, fnI150⟩), trivial, trivial⟩, ⟨(all_some ⟨Tryz.func214, fnI214⟩), trivial, trivial⟩⟩, ⟨(all_some ⟨Tryz.func118, fnI118⟩), ⟨(all_some ⟨Tryz.func182, fnI182⟩), trivial, trivial⟩, trivial⟩⟩⟩, ⟨(all_some ⟨Tryz.func30, fnI30⟩), ⟨(all_some ⟨Tryz.func46, fnI46⟩), ⟨(all_some ⟨Tryz.func78, fnI78⟩), ⟨(all_some ⟨Tryz.func142, fnI142⟩), trivial, trivial⟩, ⟨(all_some ⟨Tryz.func206, fnI206⟩), trivial, trivial⟩⟩, ⟨(all_some ⟨Tryz.func110, fnI110⟩), ⟨(all_some ⟨Tryz.func174, fnI174⟩), trivial, trivial⟩, trivial⟩⟩, ⟨(all_some ⟨Tryz.func62, fnI62⟩), ⟨(all_some ⟨Tryz.func94, fnI94⟩), ⟨(all_some ⟨Tryz.func158, fnI158⟩), trivial, trivial⟩, trivial⟩, ⟨(all_some ⟨Tryz.func126, fnI126⟩), ⟨(all_some ⟨Tryz.func190, fnI190⟩), trivial, trivial⟩, trivial⟩⟩⟩⟩⟩⟩⟩
theorem tyAll : T.All (TyFact Tryz.prog) tyTab (fun j => j) := ⟨(all_some tyF0), ⟨(all_some tyF1), ⟨(all_some tyF3), ⟨(all_some tyF7), ⟨(all_some tyF15), ⟨(all_some tyF31), ⟨(all_some tyF63), ⟨(all_some tyF127), ⟨(all_some tyF255), trivial, trivial⟩, trivial⟩, ⟨(all_some tyF191), trivial, trivial⟩⟩, ⟨(all_some tyF95), ⟨(all_some tyF159), trivial, trivial⟩, ⟨(all_some tyF223), trivial, trivial⟩⟩⟩, ⟨(all_some tyF47), ⟨(all_some tyF79), ⟨(all_some tyF143), ⟨(all_some tyF271), trivial, trivial⟩, trivial⟩, ⟨(all_some tyF207), trivial, trivial⟩⟩, ⟨(all_some tyF111), ⟨(all_some tyF175), trivial, trivial⟩, ⟨(all_some tyF239), trivial, trivial⟩⟩⟩⟩, ⟨(all_some tyF23), ⟨(all_some tyF39), ⟨(all_some tyF71), ⟨(all_some tyF135), ⟨(all_some tyF263), trivial, trivial⟩, trivial⟩, ⟨(all_some tyF199), trivial, trivial⟩⟩, ⟨(all_some tyF103), ⟨(all_some tyF167), trivial, trivial⟩, ⟨(all_some tyF231), trivial, trivial⟩⟩⟩, ⟨(all_some tyF55), ⟨(all_some tyF87), ⟨(all_some tyF151), trivial, trivial⟩, ⟨(all_some tyF215), trivial, trivial⟩⟩, ⟨(all_some tyF119), ⟨(all_some tyF183), trivial, trivial⟩, ⟨(all_some tyF247), trivial, trivial⟩⟩⟩⟩⟩, ⟨(all_some tyF11), ⟨(all_some tyF19), ⟨(all_some tyF35), ⟨(all_some tyF67), ⟨(all_some tyF131), ⟨(all_some tyF259), trivial, trivial⟩, trivial⟩, ⟨(all_some tyF195), trivial, trivial⟩⟩, ⟨(all_some tyF99), ⟨(all_some tyF163), trivial, trivial⟩, ⟨(all_some tyF227), trivial, trivial⟩⟩⟩, ⟨(all_some tyF51), ⟨(all_some tyF83), ⟨(all_some tyF147), ⟨(all_some tyF275), trivial, trivial⟩, trivial⟩, ⟨(all_some tyF211), trivial, trivial⟩⟩, ⟨(all_some tyF115), ⟨(all_some tyF179), trivial, trivial⟩, ⟨(all_some tyF243), trivial, trivial⟩⟩⟩⟩, ⟨(all_some tyF27), ⟨(all_some tyF43), ⟨(all_some tyF75), ⟨(all_some tyF139), ⟨(all_some tyF267), trivial, trivial⟩, trivial⟩, ⟨(all_some tyF203), trivial, trivial⟩⟩, ⟨(all_some tyF107), ⟨(all_some tyF171), trivial, trivial⟩, ⟨(all_some tyF235), trivial, trivial⟩⟩⟩, ⟨(all_some tyF59), ⟨(all_some tyF91), ⟨(all_some tyF155), trivial, trivial⟩, ⟨(all_some tyF219), trivial, trivial⟩⟩, ⟨(all_some tyF123), ⟨(all_some tyF187), trivial, trivial⟩, ⟨(all_some tyF251), trivial, trivial⟩⟩⟩⟩⟩⟩, ⟨(all_some tyF5), ⟨(all_some tyF9), ⟨(all_some tyF17), ⟨(all_some tyF33), ⟨(all_some tyF65), ⟨(all_some tyF129), ⟨(all_some tyF257), trivial, trivial⟩, trivial⟩, ⟨(all_some tyF193), trivial, trivial⟩⟩, ⟨(all_some tyF97), ⟨(all_some tyF161), trivial, trivial⟩, ⟨(all_some tyF225), trivial, trivial⟩⟩⟩, ⟨(all_some tyF49), ⟨(all_some tyF81), ⟨(all_some tyF145), ⟨(all_some tyF273), trivial, trivial⟩, trivial⟩, ⟨(all_some tyF209), trivial, trivial⟩⟩, ⟨(all_some tyF113), ⟨(all_some tyF177), trivial, trivial⟩, ⟨(all_some tyF241), trivial, trivial⟩⟩⟩⟩, ⟨(all_some tyF25), ⟨(all_some tyF41), ⟨(all_some tyF73), ⟨(all_some tyF137), ⟨(all_some tyF265), trivial, trivial⟩, trivial⟩, ⟨(all_some tyF201), trivial, trivial⟩⟩, ⟨(all_some tyF105), ⟨(all_some tyF169), trivial, trivial⟩, ⟨(all_some tyF233), trivial, trivial⟩⟩⟩, ⟨(all_some tyF57), ⟨(all_some tyF89), ⟨(all_some tyF153), trivial, trivial⟩, ⟨(all_some tyF217), trivial, trivial⟩⟩, ⟨(all_some tyF121), ⟨(all_some tyF185), trivial, trivial⟩, ⟨(all_some tyF249), trivial, trivial⟩⟩⟩⟩⟩, ⟨(all_some tyF13), ⟨(all_some tyF21), ⟨(all_some tyF37), ⟨(all_some tyF69), ⟨(all_some tyF133), ⟨(all_some tyF261), trivial, trivial⟩, trivial⟩, ⟨(all_some tyF197), trivial, trivial⟩⟩, ⟨(all_some tyF101), ⟨(all_some tyF165), trivial, trivial⟩, ⟨(all_some tyF229), trivial, trivial⟩⟩⟩, ⟨(all_some tyF53), ⟨(all_some tyF85), ⟨(all_some tyF149), trivial, trivial⟩, ⟨(all_some tyF213), trivial, trivial⟩⟩, ⟨(all_some tyF117), ⟨(all_some tyF181), trivial, trivial⟩, ⟨(all_some tyF245), trivial, trivial⟩⟩⟩⟩, ⟨(all_some tyF29), ⟨(all_some tyF45), ⟨(all_some tyF77), ⟨(all_some tyF141), ⟨(all_some tyF269), trivial, trivial⟩, trivial⟩, ⟨(all_some tyF205), trivial, trivial⟩⟩, ⟨(all_some tyF109), ⟨(all_some tyF173), trivial, trivial⟩, ⟨(all_some tyF237), trivial, trivial⟩⟩⟩, ⟨(all_some tyF61), ⟨(all_some tyF93), ⟨(all_some tyF157), trivial, trivial⟩, ⟨(all_some tyF221), trivial, trivial⟩⟩, ⟨(all_some tyF125), ⟨(all_some tyF189), trivial, trivial⟩, ⟨(all_some tyF253), trivial, trivial⟩⟩⟩⟩⟩⟩⟩, ⟨(all_some tyF2), ⟨(all_some tyF4), ⟨(all_some tyF8), ⟨(all_some tyF16), ⟨(all_some tyF32), ⟨(all_some tyF64), ⟨(all_some tyF128), ⟨(all_some tyF256), trivial, trivial⟩, trivial⟩, ⟨(all_some tyF192), trivial, trivial⟩⟩, ⟨(all_some tyF96), ⟨(all_some tyF160), trivial, trivial⟩, ⟨(all_some tyF224), trivial, trivial⟩⟩⟩, ⟨(all_some tyF48), ⟨(all_some tyF80), ⟨(all_some tyF144), ⟨(all_some tyF272), trivial, trivial⟩, trivial⟩, ⟨(all_some tyF208), trivial, trivial⟩⟩, ⟨(all_some tyF112), ⟨(all_some tyF176), trivial, trivial⟩, ⟨(all_some tyF240), trivial, trivial⟩⟩⟩⟩, ⟨(all_some tyF24), ⟨(all_some tyF40), ⟨(all_some tyF72), ⟨(all_some tyF136), ⟨(all_some tyF264), trivial, trivial⟩, trivial⟩, ⟨(all_some tyF200), trivial, trivial⟩⟩, ⟨(all_some tyF104), ⟨(all_some tyF168), trivial, trivial⟩, ⟨(all_some tyF232), trivial, trivial⟩⟩⟩, ⟨(all_some tyF56), ⟨(all_some tyF88), ⟨(all_some tyF152), trivial, trivial⟩, ⟨(all_some tyF216), trivial, trivial⟩⟩, ⟨(all_some tyF120), ⟨(all_some tyF184), trivial, trivial⟩, ⟨(all_some tyF248), trivial, trivial⟩⟩⟩⟩⟩, ⟨(all_some tyF12), ⟨(all_some tyF20), ⟨(all_some tyF36), ⟨(all_some tyF68), ⟨(all_some tyF132), ⟨(all_some tyF260), trivial, trivial⟩, trivial⟩, ⟨(all_some tyF196), trivial, trivial⟩⟩, ⟨(all_some tyF100), ⟨(all_some tyF164), trivial, trivial⟩, ⟨(all_some tyF228), trivial, trivial⟩⟩⟩, ⟨(all_some tyF52), ⟨(all_some tyF84), ⟨(all_some tyF148), trivial, trivial⟩, ⟨(all_some tyF212), trivial, trivial⟩⟩, ⟨(all_some tyF116), ⟨(all_some tyF180), trivial, trivial⟩, ⟨(all_some tyF244), trivial, trivial⟩⟩⟩⟩, ⟨(all_some tyF28), ⟨(all_some tyF44), ⟨(all_some tyF76), ⟨(all_some tyF140), ⟨(all_some tyF268), trivial, trivial⟩, trivial⟩, ⟨(all_some tyF204), trivial, trivial⟩⟩, ⟨(all_some tyF108), ⟨(all_some tyF172), trivial, trivial⟩, ⟨(all_some tyF236), trivial, trivial⟩⟩⟩, ⟨(all_some tyF60), ⟨(all_some tyF92), ⟨(all_some tyF156), trivial, trivial⟩, ⟨(all_some tyF220), trivial, trivial⟩⟩, ⟨(all_some tyF124), ⟨(all_some tyF188), trivial, trivial⟩, ⟨(all_some tyF252), trivial, trivial⟩⟩⟩⟩⟩⟩, ⟨(all_some tyF6), ⟨(all_some tyF10), ⟨(all_some tyF18), ⟨(all_some tyF34), ⟨(all_some tyF66), ⟨(all_some tyF130), ⟨(all_some tyF258), trivial, trivial⟩, trivial⟩, ⟨(all_some tyF194), trivial, trivial⟩⟩, ⟨(all_some tyF98), ⟨(all_some tyF162), trivial, trivial⟩, ⟨(all_some tyF226), trivial, trivial⟩⟩⟩, ⟨(all_some tyF50), ⟨(all_some tyF82), ⟨(all_some tyF146), ⟨(all_some tyF274), trivial, trivial⟩, trivial⟩, ⟨(all_some tyF210), trivial, trivial⟩⟩, ⟨(all_some tyF114), ⟨(all_some tyF178), trivial, trivial⟩, ⟨(all_some tyF242), trivial, trivial⟩⟩⟩⟩, ⟨(all_some tyF26), ⟨(all_some tyF42), ⟨(all_some tyF74), ⟨(all_some tyF138), ⟨(all_some tyF266), trivial, trivial⟩, trivial⟩, ⟨(all_some tyF202), trivial, trivial⟩⟩, ⟨(all_some tyF106), ⟨(all_some tyF170), trivial, trivial⟩, ⟨(all_some tyF234), trivial, trivial⟩⟩⟩, ⟨(all_some tyF58), ⟨(all_some tyF90), ⟨(all_some tyF154), trivial, trivial⟩, ⟨(all_some tyF218), trivial, trivial⟩⟩, ⟨(all_some tyF122), ⟨(all_some tyF186), trivial, trivial⟩, ⟨(all_some tyF250), trivial, trivial⟩⟩⟩⟩⟩, ⟨(all_some tyF14), ⟨(all_some tyF22), ⟨(all_some tyF38), ⟨(all_some tyF70), ⟨(all_some tyF134), ⟨(all_some tyF262), trivial, trivial⟩, trivial⟩, ⟨(all_some tyF198), trivial, trivial⟩⟩, ⟨(all_some tyF102), ⟨(all_some tyF166), trivial, trivial⟩, ⟨(all_some tyF230), trivial, trivial⟩⟩⟩, ⟨(all_some tyF54), ⟨(all_some tyF86), ⟨(all_some tyF150), trivial, trivial⟩, ⟨(all_some tyF214), trivial, trivial⟩⟩, ⟨(all_some tyF118), ⟨(all_some tyF182), trivial, trivial⟩, ⟨(all_some tyF246), trivial, trivial⟩⟩⟩⟩, ⟨(all_some tyF30), ⟨(all_some tyF46), ⟨(all_some tyF78), ⟨(all_some tyF142), ⟨(all_some tyF270), trivial, trivial⟩, trivial⟩, ⟨(all_some tyF206), trivial, trivial⟩⟩, ⟨(all_some tyF110), ⟨(all_some tyF174), trivial, trivial⟩, ⟨(all_some tyF238), trivial, trivial⟩⟩⟩, ⟨(all_some tyF62), ⟨(all_some tyF94), ⟨(all_some tyF158), trivial, trivial⟩, ⟨(all_some tyF222), trivial, trivial⟩⟩, ⟨(all_some tyF126), ⟨(all_some tyF190), trivial, trivial⟩, ⟨(all_some tyF254), trivial, trivial⟩⟩⟩⟩⟩⟩⟩⟩
theorem mixed : Tryz.prog.follows .mixedOrders = true := by kernel_rfl
end Go.Proofs.YtlkhpgocbojdgaaGreatDoor.Ai
